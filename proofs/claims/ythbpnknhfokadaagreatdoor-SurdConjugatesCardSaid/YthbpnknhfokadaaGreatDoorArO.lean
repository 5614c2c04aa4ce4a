/- Numbers as the reference reads them: the sign, what stands ahead of and behind the slash; small numbers. -/
import Derived.Test.YthbpnknhfokadaaGreatDoorArA
import Derived.Test.YthbpnknhfokadaaGreatDoorSxU
set_option linter.unusedSimpArgs false
set_option linter.unusedVariables false
namespace Go.Ar
open Go Go.Sx Go.Lib
set_option maxRecDepth 100000
theorem WV {s : zI} {i : Nat} (h : i < s.length) : s.getD i 0 ∈ s := by
 simp_all
theorem UL {s : zI} {c : UInt8} (h : c ∈ s) : ∃ i, i < s.length ∧ s.getD i 0 = c := by
 obtain ⟨i, hi, rfl⟩ := List.mem_iff_getElem.1 h
 exact ⟨i, hi, by rw [List.getD_eq_getElem?_getD, List.getElem?_eq_getElem hi]; rfl⟩
theorem getD_takeS {s : zI} {z i : Nat} (h : i < z) : (s.take z).getD i 0 = s.getD i 0 := by
 simp_all
theorem io {s : zI} {z : Nat} (hz : z < s.length) (h : ∀ i, i < z → s.getD i 0 ≠ 47) (e : s.getD z 0 = 47) :
  zL s = s.take z ∧ z6 s = s.drop (z + 1) ∧ zh s = true := by
 have e1 : s.take z ++ 47 :: s.drop (z + 1) = s := by
  conv => rhs; rw [← List.take_append_drop z s]
  congr 1
  rw [List.drop_eq_getElem_cons hz, ← e, List.getD_eq_getElem?_getD, List.getElem?_eq_getElem hz]; rfl
 have h1 : ∀ c ∈ s.take z, (c != 47) = true := by
  intro c hc
  obtain ⟨i, hi, rfl⟩ := UL hc
  grind
 have := Uc (b := s.drop (z + 1)) h1
 simp_all
theorem NZ {s : zI} (h : ∀ i, i < s.length → s.getD i 0 ≠ 47) : zh s = false ∧ zL s = s ∧ z6 s = [] := by
 have hs : zh s = false := tT fun c hc => by
  obtain ⟨i, hi, rfl⟩ := UL hc
  simp_all
 exact ⟨hs, Xt hs⟩
def zJ (a : zI) : Bool := a.getD 0 0 == 45
def zR (a : zI) : zI := bif zJ a then a.drop 1 else a
theorem uJ (a : zI) : (zR a).length ≤ a.length := by
 unfold zR
 grind
theorem vH (s : zI) : (zL s).length ≤ s.length := by
 unfold zL
 exact List.Sublist.length_le (List.takeWhile_sublist _)
theorem RZ (s : zI) : (z6 s).length ≤ s.length := by
 unfold z6
 rw [List.length_drop]
 have := List.Sublist.length_le (List.dropWhile_sublist (· != (47 : UInt8)) (l := s))
 omega
theorem Pp (a : zI) : (zJ a = true ∧ a = 45 :: zR a) ∨ (zJ a = false ∧ zR a = a ∧ ¬ (0 < (zL a).length ∧ (zL a).getD 0 0 = 45)) := by
 unfold zR zJ
 match a with
 | [] => exact .inr ⟨rfl, rfl, fun h => by cases h.1⟩
 | c :: r =>
  by_cases hc : c = 45
  ·simp_all
  ·have e : ((c :: r).getD 0 0 == (45 : UInt8)) = false := beq_eq_false_iff_ne.2 hc
   rw [e]
   refine .inr ⟨rfl, rfl, fun h => ?_⟩
   unfold zL at h
   rw [List.takeWhile_cons] at h
   grind
theorem jE (r : zI) : zL (45 :: r) = 45 :: zL r ∧ z6 (45 :: r) = z6 r ∧ zh (45 :: r) = zh r := by
 refine ⟨?_, ?_, ?_⟩
 all_goals rfl
theorem Yd (a : zI) : zL a = (bif zJ a then 45 :: zL (zR a) else zL (zR a)) ∧ z6 a = z6 (zR a) ∧ zh a = zh (zR a) ∧
  Zx (zL a) = (Z4 (zL (zR a)) && !(zJ a && zL (zR a) == [48])) ∧ XF (zL a) = (zL (zR a)).length ∧
  zj a = (bif zJ a then -(zc (zL (zR a)) : Int) else (zc (zL (zR a)) : Int)) ∧ zn a = (bif zh (zR a) then zc (z6 (zR a)) else 1) := by
 rcases Pp a with ⟨h1, h2⟩ | ⟨h1, h2, h3⟩
 ·obtain ⟨c1, c2, c3⟩ := jE (zR a)
  rw [← h2] at c1 c2 c3
  unfold zj zn
  rw [c1, c2, c3, h1]
  exact ⟨rfl, rfl, rfl, by show (Z4 _ && _) = _; simp, rfl, rfl, rfl⟩
 ·obtain ⟨p1, p2, p3⟩ := Wj h3
  unfold zj zn
  simp_all
theorem US (a : zI) : (zj a).natAbs = zc (zL (zR a)) := by
 obtain ⟨_, _, _, _, _, h, _⟩ := Yd a
 grind
def WU (a : zI) : Bool := Z4 (zL (zR a)) && !(zJ a && zL (zR a) == [48]) && (!zh (zR a) || Z4 (z6 (zR a)) && !(z6 (zR a) == [48]) && !(z6 (zR a) == [49]))
theorem Xa (a : zI) : ZN a = WU a := by
 obtain ⟨h1, h2, h3, h4, _⟩ := Yd a
 unfold ZN WU
 simp_all
theorem Rm {a : zI} (h : WU a = false) : zG a = 11 := by
 unfold zG
 rw [Xa, h]; rfl
theorem Ov {a : zI} (h : WU a = true) (hl : 300 < (zL (zR a)).length ∨ 300 < (z6 (zR a)).length) : zG a = 4 := by
 obtain ⟨_, h2, _, _, h5, _⟩ := Yd a
 unfold zG
 rw [Xa, h, h5, h2, show (Nat.blt 300 (zL (zR a)).length || Nat.blt 300 (z6 (zR a)).length) = true by
  simp_all]
 rfl
theorem UC {a : zI} (h : WU a = true) (hl : (zL (zR a)).length ≤ 300 ∧ (z6 (zR a)).length ≤ 300) (hs : zh (zR a) = true) :
  zG a = bif Nat.beq (Nat.gcd (zc (zL (zR a))) (zc (z6 (zR a)))) 1 then 0 else 11 := by
 obtain ⟨_, h2, _, _, h5, _, h7⟩ := Yd a
 unfold zG
 rw [Xa, h, h5, h2, US, h7, hs, show (Nat.blt 300 (zL (zR a)).length || Nat.blt 300 (z6 (zR a)).length) = false by
  rw [Bool.or_eq_false_iff, Bool.eq_false_iff, Bool.eq_false_iff, Ne, Ne, Zw, Zw]; omega]
 rfl
theorem rB {a : zI} (h : WU a = true) (hl : (zL (zR a)).length ≤ 300) (hs : zh (zR a) = false) : zG a = 0 := by
 obtain ⟨_, h2, _, _, h5, _, h7⟩ := Yd a
 have hd : z6 (zR a) = [] := (Xt hs).2
 unfold zG
 rw [Xa, h, h5, h2, h7, hs, hd, show (Nat.blt 300 (zL (zR a)).length || Nat.blt 300 ([] : zI).length) = false by
  rw [Bool.or_eq_false_iff, Bool.eq_false_iff, Bool.eq_false_iff, Ne, Ne, Zw, Zw]
  simp_all]
 simp
theorem vX {s : zI} (h : Z4 s = true) {k : Nat} (hl : s.length ≤ k) : zc s < 10 ^ k := by
 have h1 := Wi (l := s) (List.all_eq_true.2 (Zs.1 h).2.1)
 exact Nat.lt_of_lt_of_le h1 (Nat.pow_le_pow_right (by omega) hl)
end Go.Ar

namespace Go.Ar
open Go Go.Sx Go.Lib
set_option maxRecDepth 100000
class yc (α : Type) [zS α] : Prop where
 dec : ∀ a : α, zS.dec (zS.enc a) = a
 ok : ∀ a : α, zS.ok (α := α) (zS.enc a) = true
theorem uQ {f : Nat → Bool} : ∀ {n : Nat}, (∀ i, i < n → f i = true) → UN f n = true
 | 0, _ => rfl
 | n + 1, h => by simp only [UN, Bool.and_eq_true]; exact ⟨uQ fun i hi => h i (by omega), h n (by omega)⟩
section
variable {α : Type} [zS α] [yc α]
theorem uh (f : Bool) (l : List α) (n : Nat) : Ze (AV.xl f n l.length fun i j => zS.enc (l.getD i zS.dflt) j) = l := by
 show Sj l.length (fun i => zS.dec (zS.enc (l.getD i zS.dflt))) = l
 simp only [yc.dec]
 exact Ro l _
theorem um (l : List α) : Ze (ZD l) = l := uh false l _
theorem SP (f : Bool) (l : List α) : zC α (AV.xl f (zS.n α) l.length fun i j => zS.enc (l.getD i zS.dflt) j) = true := by
 show (Nat.beq (zS.n α) (zS.n α) && UN (fun i => zS.ok (α := α) (zS.enc (l.getD i zS.dflt))) l.length) = true
 rw [Bool.and_eq_true]
 exact ⟨Nat.beq_refl _, uQ fun i _ => yc.ok _⟩
theorem vn (l : List α) : zC α (ZD l) = true := SP false l
theorem WN (a : α) : yR (xR a) = a := yc.dec a
theorem X7 (a : α) : yp α (xR a) = true := by
 show (Nat.beq (zS.n α) (zS.n α) && zS.ok (α := α) (zS.enc a)) = true
 rw [Bool.and_eq_true]
 exact ⟨Nat.beq_refl _, yc.ok _⟩
end
instance : yc Int := ⟨fun _ => rfl, fun _ => rfl⟩
instance : yc Bool := ⟨fun _ => rfl, fun _ => rfl⟩
instance : yc (List UInt8) := ⟨fun _ => rfl, fun _ => rfl⟩
theorem i6 (k : IntKind) (n : Int) : AV.int (.v (.int k n)) = n := rfl
theorem xN (z : Nat) : zF 0 (z : Int) = Nat.blt 0 z := by rw [Bool.eq_iff_iff, zp, Zw]; omega
theorem RD (z : Nat) : ((z : Int) - 1).toNat = z - 1 := by omega
theorem X6 {A B : Prop} : zZ true A B ↔ A := by simp [zY]
theorem row_one (r : Nat → AV) : Sx.rowAt [r] = fun _ j => r j := by
 funext i j
 unfold Sx.rowAt
 cases i with
 | zero => rfl
 | succ i => rfl
def zV (x : AV) : List Int := Ze x
theorem Iw (f : Bool) (l : List Int) : zC Int (AV.xl f 1 l.length fun i j => AV.v (Value.int IntKind.i64 (l.getD i 0))) = true := SP f l
theorem IJ (f : Bool) (l : List Int) : zC Int (AV.xl f 1 l.length fun i j => AV.v (Value.int IntKind.i64 (l.getD i zS.dflt))) = true := SP f l
theorem H7 (f : Bool) (l : List Int) : Ze (AV.xl f 1 l.length fun i j => AV.v (Value.int IntKind.i64 (l.getD i 0))) = l := uh f l 1
theorem Hk (f : Bool) (l : List Int) : Ze (AV.xl f 1 l.length fun i j => AV.v (Value.int IntKind.i64 (l.getD i zS.dflt))) = l := uh f l 1
theorem Hd (f : Bool) (l : List Int) : zV (AV.xl f 1 l.length fun i j => AV.v (Value.int IntKind.i64 (l.getD i 0))) = l := uh f l 1
theorem IW (f : Bool) (l : List Int) : zV (AV.xl f 1 l.length fun i j => AV.v (Value.int IntKind.i64 (l.getD i zS.dflt))) = l := uh f l 1
theorem oz {α : Type} {l : List α} {d : α} {z : Nat} (h : z < l.length) : l.take (z + 1) = l.take z ++ [l.getD z d] := by
 simp_all
def jV (f : FuncId) : AV := .fn (.func f) 0 (fun _ => .junk) 0 (fun _ => .junk)
theorem Iy {a b : Nat} (h : a ≤ b) : 10 ^ a ≤ 10 ^ b := Nat.pow_le_pow_right (by omega) h
theorem MF (k m : Nat) (h : m = k + 1) : 10 ^ m = 10 ^ k * 10 := by rw [h, Nat.pow_succ]
theorem jT (k m : Nat) (h : m = k + k) : 10 ^ m = 10 ^ k * 10 ^ k := by rw [h, Nat.pow_add]
theorem Uz {c : Bool} {A B : Prop} (h : c = true) (ha : A) : zZ c A B := by rw [h, X6]; exact ha
theorem sS : (∀ x : AV, zb x x) ∧ (∀ p : Prop, (True ∧ p) = p) ∧ (∀ p : Prop, (p ∧ True) = p) ∧ (∀ x : Bool, zr true x = x) ∧ (∀ x : Bool, zr false x = !x) ∧
  (∀ {x : Bool} {A : Prop}, zZ (!x || x) A False ↔ A) ∧ (∀ a b : Bool, (bif a then true else b) = (a || b)) ∧ (∀ a b : Bool, (bif a then b else false) = (a && b)) ∧
  (∀ {x : Bool} {p : Prop} [DB p] {A : Prop}, zZ (!x || DB.db p) A False ↔ (x = true → p) ∧ A) ∧ (∀ {p : Prop} [DB p] {A : Prop}, zZ (DB.db p) A False ↔ p ∧ A) ∧
  (∀ {a b : Int} {A B : Prop}, zZ (zF a b) A B ↔ (a < b → A) ∧ (b ≤ a → B)) ∧ (∀ {a b : Int} {A B : Prop}, zZ (leB a b) A B ↔ (a ≤ b → A) ∧ (b < a → B)) ∧
  (∀ {a b : Int} {A B : Prop}, zZ (a != b) A B ↔ (a ≠ b → A) ∧ (a = b → B)) ∧ (∀ {a b : Int} {A B : Prop}, zZ (a == b) A B ↔ (a = b → A) ∧ (a ≠ b → B)) ∧
  (∀ {A B : Prop}, zZ true A B ↔ A) ∧ (∀ n : Nat, (n : Int).toNat = n) ∧ (∀ n : Nat, 0 + n = n) ∧ (∀ n : Nat, 0 ≤ n) ∧ (∀ n : Nat, n - 0 = n) ∧
  (∀ (k : IntKind) (n : Int), AV.int (.v (.int k n)) = n) ∧ (∀ b : Bool, (b || true) = true) ∧ (∀ {α : Type} (a b : α), (bif true then a else b) = a) ∧ (∀ {α : Type} (a b : α), (bif false then a else b) = b) :=
 ⟨zT, true_and, and_true, oa, QL, jm, jB, kN, ZI, yx, I6, I7, I9, HZ, X6, Int.toNat_natCast, Nat.zero_add, Nat.zero_le, Nat.sub_zero, i6, Bool.or_true, cond_true, cond_false⟩
theorem dS : (∀ (f : Bool) (l : List Int), zC Int (AV.xl f 1 l.length fun i j => AV.v (Value.int IntKind.i64 (l.getD i 0))) = true) ∧ (∀ (f : Bool) (l : List Int), zC Int (AV.xl f 1 l.length fun i j => AV.v (Value.int IntKind.i64 (l.getD i zS.dflt))) = true) ∧
  (∀ (f : Bool) (l : List Int), Ze (AV.xl f 1 l.length fun i j => AV.v (Value.int IntKind.i64 (l.getD i 0))) = l) ∧ (∀ (f : Bool) (l : List Int), Ze (AV.xl f 1 l.length fun i j => AV.v (Value.int IntKind.i64 (l.getD i zS.dflt))) = l) ∧
  (∀ (f : Bool) (l : List Int), zV (AV.xl f 1 l.length fun i j => AV.v (Value.int IntKind.i64 (l.getD i 0))) = l) ∧ (∀ (f : Bool) (l : List Int), zV (AV.xl f 1 l.length fun i j => AV.v (Value.int IntKind.i64 (l.getD i zS.dflt))) = l) :=
 ⟨Iw, IJ, H7, Hk, Hd, IW⟩
def Ia : List zk → Prop
 | [] => True
 | p :: ps => p.holds ∧ Ia ps
theorem ZH : ∀ {ps : List zk}, (∀ p ∈ ps, p.holds) → Ia ps
 | [], _ => trivial
 | _ :: _, h => ⟨h _ List.mem_cons_self, ZH fun q hq => h q (List.mem_cons_of_mem _ hq)⟩
abbrev bF (t : Bool) (A : Prop) : Prop := zZ t A False
abbrev dK (x : Int) : Bool := DB.db (ZA .i64 x)
abbrev bA (a : Array UInt8) : List UInt8 := Array.toList (ByteArray.data (ByteArray.mk a))
abbrev a8 (x : UInt8) : AV := AV.v (Value.int IntKind.u8 ((UInt8.toNat x : Nat) : Int))
abbrev xI (x : List Int) : AV := AV.xl false 1 (List.length x) fun i _ => AV.v (Value.int .i64 (List.getD x i zS.dflt))
abbrev nX : Nat := 9223372036854775807
abbrev nM : Nat := 4294967280
abbrev lR : Prop := LoopState.ready = LoopState.ready ∧ X9 Code = X9 Code
abbrev cI (n : Nat) : Int := n
abbrev kI : Prop := IntKind.i64 = .i64
abbrev j2 : Prop := 2 = List.length [AV.junk, AV.junk]
abbrev lN {α : Type} (l : List α) : Nat := List.length l
abbrev lZ {α : Type} (l : List α) : Int := (↑(List.length l) : Int)
abbrev gD {α : Type} (l : List α) (i : Nat) (d : α) : α := List.getD l i d
abbrev iZ : Int := 0
abbrev iO : Int := 1
abbrev iX : Int := 9223372036854775807
abbrev iN : Int := -9223372036854775808
abbrev iB : Int := 1000000000
abbrev aI (n : Int) : AV := AV.v (Value.int .i64 n)
end Go.Ar
