/- Numbers as the reference reads them: the sign, what stands ahead of and behind the slash; small numbers. -/
import Derived.Test.YthbpnknhfokadaaGreatDoorArA
import Derived.Test.YthbpnknhfokadaaGreatDoorSxU
set_option linter.unusedSimpArgs false
set_option linter.unusedVariables false
namespace Go.Ar
open Go Go.Sx Go.Lib
set_option maxRecDepth 100000
theorem w9 {s : zj} {i : Nat} (h : i < s.length) : s.getD i 0 ∈ s := by
 simp_all
theorem tJ {s : zj} {c : UInt8} (h : c ∈ s) : ∃ i, i < s.length ∧ s.getD i 0 = c := by
 obtain ⟨i, hi, rfl⟩ := List.mem_iff_getElem.1 h
 exact ⟨i, hi, by rw [List.getD_eq_getElem?_getD, List.getElem?_eq_getElem hi]; rfl⟩
theorem getD_takeS {s : zj} {z i : Nat} (h : i < z) : (s.take z).getD i 0 = s.getD i 0 := by
 simp_all
theorem ik {s : zj} {z : Nat} (hz : z < s.length) (h : ∀ i, i < z → s.getD i 0 ≠ 47) (e : s.getD z 0 = 47) :
  zO s = s.take z ∧ zb s = s.drop (z + 1) ∧ zJ s = true := by
 have e1 : s.take z ++ 47 :: s.drop (z + 1) = s := by
  conv => rhs; rw [← List.take_append_drop z s]
  congr 1
  rw [List.drop_eq_getElem_cons hz, ← e, List.getD_eq_getElem?_getD, List.getElem?_eq_getElem hz]; rfl
 have h1 : ∀ c ∈ s.take z, (c != 47) = true := by
  intro c hc
  obtain ⟨i, hi, rfl⟩ := tJ hc
  grind
 have := Ul (b := s.drop (z + 1)) h1
 simp_all
theorem N5 {s : zj} (h : ∀ i, i < s.length → s.getD i 0 ≠ 47) : zJ s = false ∧ zO s = s ∧ zb s = [] := by
 have hs : zJ s = false := U8 fun c hc => by
  obtain ⟨i, hi, rfl⟩ := tJ hc
  simp_all
 exact ⟨hs, XS hs⟩
def zL (a : zj) : Bool := a.getD 0 0 == 45
def zR (a : zj) : zj := bif zL a then a.drop 1 else a
theorem tg (a : zj) : (zR a).length ≤ a.length := by
 unfold zR
 grind
theorem vO (s : zj) : (zO s).length ≤ s.length := by
 unfold zO
 exact List.Sublist.length_le (List.takeWhile_sublist _)
theorem qZ (s : zj) : (zb s).length ≤ s.length := by
 unfold zb
 rw [List.length_drop]
 have := List.Sublist.length_le (List.dropWhile_sublist (· != (47 : UInt8)) (l := s))
 omega
theorem O7 (a : zj) : (zL a = true ∧ a = 45 :: zR a) ∨ (zL a = false ∧ zR a = a ∧ ¬ (0 < (zO a).length ∧ (zO a).getD 0 0 = 45)) := by
 unfold zR zL
 match a with
 | [] => exact .inr ⟨rfl, rfl, fun h => by cases h.1⟩
 | c :: r =>
  by_cases hc : c = 45
  ·simp_all
  ·have e : ((c :: r).getD 0 0 == (45 : UInt8)) = false := beq_eq_false_iff_ne.2 hc
   rw [e]
   refine .inr ⟨rfl, rfl, fun h => ?_⟩
   unfold zO at h
   rw [List.takeWhile_cons] at h
   grind
theorem jI (r : zj) : zO (45 :: r) = 45 :: zO r ∧ zb (45 :: r) = zb r ∧ zJ (45 :: r) = zJ r := by
 refine ⟨?_, ?_, ?_⟩
 all_goals rfl
theorem Yf (a : zj) : zO a = (bif zL a then 45 :: zO (zR a) else zO (zR a)) ∧ zb a = zb (zR a) ∧ zJ a = zJ (zR a) ∧
  Zy (zO a) = (Z1 (zO (zR a)) && !(zL a && zO (zR a) == [48])) ∧ XB (zO a) = (zO (zR a)).length ∧
  zM a = (bif zL a then -(ze (zO (zR a)) : Int) else (ze (zO (zR a)) : Int)) ∧ zP a = (bif zJ (zR a) then ze (zb (zR a)) else 1) := by
 rcases O7 a with ⟨h1, h2⟩ | ⟨h1, h2, h3⟩
 ·obtain ⟨c1, c2, c3⟩ := jI (zR a)
  rw [← h2] at c1 c2 c3
  unfold zM zP
  rw [c1, c2, c3, h1]
  exact ⟨rfl, rfl, rfl, by show (Z1 _ && _) = _; simp, rfl, rfl, rfl⟩
 ·obtain ⟨p1, p2, p3⟩ := Wl h3
  unfold zM zP
  simp_all
theorem Uj (a : zj) : (zM a).natAbs = ze (zO (zR a)) := by
 obtain ⟨_, _, _, _, _, h, _⟩ := Yf a
 grind
def WX (a : zj) : Bool := Z1 (zO (zR a)) && !(zL a && zO (zR a) == [48]) && (!zJ (zR a) || Z1 (zb (zR a)) && !(zb (zR a) == [48]) && !(zb (zR a) == [49]))
theorem X3 (a : zj) : Zn a = WX a := by
 obtain ⟨h1, h2, h3, h4, _⟩ := Yf a
 unfold Zn WX
 simp_all
theorem RE {a : zj} (h : WX a = false) : zh a = 11 := by
 unfold zh
 rw [X3, h]; rfl
theorem O2 {a : zj} (h : WX a = true) (hl : 300 < (zO (zR a)).length ∨ 300 < (zb (zR a)).length) : zh a = 4 := by
 obtain ⟨_, h2, _, _, h5, _⟩ := Yf a
 unfold zh
 rw [X3, h, h5, h2, show (Nat.blt 300 (zO (zR a)).length || Nat.blt 300 (zb (zR a)).length) = true by
  simp_all]
 rfl
theorem U3 {a : zj} (h : WX a = true) (hl : (zO (zR a)).length ≤ 300 ∧ (zb (zR a)).length ≤ 300) (hs : zJ (zR a) = true) :
  zh a = bif Nat.beq (Nat.gcd (ze (zO (zR a))) (ze (zb (zR a)))) 1 then 0 else 11 := by
 obtain ⟨_, h2, _, _, h5, _, h7⟩ := Yf a
 unfold zh
 rw [X3, h, h5, h2, Uj, h7, hs, show (Nat.blt 300 (zO (zR a)).length || Nat.blt 300 (zb (zR a)).length) = false by
  rw [Bool.or_eq_false_iff, Bool.eq_false_iff, Bool.eq_false_iff, Ne, Ne, Zx, Zx]; omega]
 rfl
theorem RL {a : zj} (h : WX a = true) (hl : (zO (zR a)).length ≤ 300) (hs : zJ (zR a) = false) : zh a = 0 := by
 obtain ⟨_, h2, _, _, h5, _, h7⟩ := Yf a
 have hd : zb (zR a) = [] := (XS hs).2
 unfold zh
 rw [X3, h, h5, h2, h7, hs, hd, show (Nat.blt 300 (zO (zR a)).length || Nat.blt 300 ([] : zj).length) = false by
  rw [Bool.or_eq_false_iff, Bool.eq_false_iff, Bool.eq_false_iff, Ne, Ne, Zx, Zx]
  simp_all]
 simp
theorem vX {s : zj} (h : Z1 s = true) {k : Nat} (hl : s.length ≤ k) : ze s < 10 ^ k := by
 have h1 := WO (l := s) (List.all_eq_true.2 (Zr.1 h).2.1)
 exact Nat.lt_of_lt_of_le h1 (Nat.pow_le_pow_right (by omega) hl)
end Go.Ar

namespace Go.Ar
open Go Go.Sx Go.Lib
set_option maxRecDepth 100000
class YY (α : Type) [zr α] : Prop where
 dec : ∀ a : α, zr.dec (zr.enc a) = a
 ok : ∀ a : α, zr.ok (α := α) (zr.enc a) = true
theorem Sy {f : Nat → Bool} : ∀ {n : Nat}, (∀ i, i < n → f i = true) → Uc f n = true
 | 0, _ => rfl
 | n + 1, h => by simp only [Uc, Bool.and_eq_true]; exact ⟨Sy fun i hi => h i (by omega), h n (by omega)⟩
section
variable {α : Type} [zr α] [YY α]
theorem tP (f : Bool) (l : List α) (n : Nat) : yx (AV.xl f n l.length fun i j => zr.enc (l.getD i zr.dflt) j) = l := by
 show rW l.length (fun i => zr.dec (zr.enc (l.getD i zr.dflt))) = l
 simp only [YY.dec]
 exact RF l _
theorem uJ (l : List α) : yx (ZD l) = l := tP false l _
theorem SB (f : Bool) (l : List α) : zB α (AV.xl f (zr.n α) l.length fun i j => zr.enc (l.getD i zr.dflt) j) = true := by
 show (Nat.beq (zr.n α) (zr.n α) && Uc (fun i => zr.ok (α := α) (zr.enc (l.getD i zr.dflt))) l.length) = true
 rw [Bool.and_eq_true]
 exact ⟨Nat.beq_refl _, Sy fun i _ => YY.ok _⟩
theorem vk (l : List α) : zB α (ZD l) = true := SB false l
theorem Wr (a : α) : Z4 (Yc a) = a := YY.dec a
theorem XI (a : α) : yt α (Yc a) = true := by
 show (Nat.beq (zr.n α) (zr.n α) && zr.ok (α := α) (zr.enc a)) = true
 rw [Bool.and_eq_true]
 exact ⟨Nat.beq_refl _, YY.ok _⟩
end
instance : YY Int := ⟨fun _ => rfl, fun _ => rfl⟩
instance : YY Bool := ⟨fun _ => rfl, fun _ => rfl⟩
instance : YY (List UInt8) := ⟨fun _ => rfl, fun _ => rfl⟩
theorem IN (k : IntKind) (n : Int) : AV.int (.v (.int k n)) = n := rfl
theorem xt (z : Nat) : zg 0 (z : Int) = Nat.blt 0 z := by rw [Bool.eq_iff_iff, zq, Zx]; omega
theorem Rn (z : Nat) : ((z : Int) - 1).toNat = z - 1 := by omega
theorem Xi {A B : Prop} : zZ true A B ↔ A := by simp [zX]
theorem row_one (r : Nat → AV) : Sx.rowAt [r] = fun _ j => r j := by
 funext i j
 unfold Sx.rowAt
 cases i with
 | zero => rfl
 | succ i => rfl
def zV (x : AV) : List Int := yx x
theorem Io (f : Bool) (l : List Int) : zB Int (AV.xl f 1 l.length fun i j => AV.v (Value.int IntKind.i64 (l.getD i 0))) = true := SB f l
theorem HX (f : Bool) (l : List Int) : zB Int (AV.xl f 1 l.length fun i j => AV.v (Value.int IntKind.i64 (l.getD i zr.dflt))) = true := SB f l
theorem GR (f : Bool) (l : List Int) : yx (AV.xl f 1 l.length fun i j => AV.v (Value.int IntKind.i64 (l.getD i 0))) = l := tP f l 1
theorem H9 (f : Bool) (l : List Int) : yx (AV.xl f 1 l.length fun i j => AV.v (Value.int IntKind.i64 (l.getD i zr.dflt))) = l := tP f l 1
theorem gO (f : Bool) (l : List Int) : zV (AV.xl f 1 l.length fun i j => AV.v (Value.int IntKind.i64 (l.getD i 0))) = l := tP f l 1
theorem IC (f : Bool) (l : List Int) : zV (AV.xl f 1 l.length fun i j => AV.v (Value.int IntKind.i64 (l.getD i zr.dflt))) = l := tP f l 1
theorem oZ {α : Type} {l : List α} {d : α} {z : Nat} (h : z < l.length) : l.take (z + 1) = l.take z ++ [l.getD z d] := by
 simp_all
def iJ (f : FuncId) : AV := .fn (.func f) 0 (fun _ => .junk) 0 (fun _ => .junk)
theorem I8 {a b : Nat} (h : a ≤ b) : 10 ^ a ≤ 10 ^ b := Nat.pow_le_pow_right (by omega) h
theorem Lo (k m : Nat) (h : m = k + 1) : 10 ^ m = 10 ^ k * 10 := by rw [h, Nat.pow_succ]
theorem JD (k m : Nat) (h : m = k + k) : 10 ^ m = 10 ^ k * 10 ^ k := by rw [h, Nat.pow_add]
theorem u7 {c : Bool} {A B : Prop} (h : c = true) (ha : A) : zZ c A B := by rw [h, Xi]; exact ha
theorem sS : (∀ x : AV, zE x x) ∧ (∀ p : Prop, (True ∧ p) = p) ∧ (∀ p : Prop, (p ∧ True) = p) ∧ (∀ x : Bool, zS true x = x) ∧ (∀ x : Bool, zS false x = !x) ∧
  (∀ {x : Bool} {A : Prop}, zZ (!x || x) A False ↔ A) ∧ (∀ a b : Bool, (bif a then true else b) = (a || b)) ∧ (∀ a b : Bool, (bif a then b else false) = (a && b)) ∧
  (∀ {x : Bool} {p : Prop} [DB p] {A : Prop}, zZ (!x || DB.db p) A False ↔ (x = true → p) ∧ A) ∧ (∀ {p : Prop} [DB p] {A : Prop}, zZ (DB.db p) A False ↔ p ∧ A) ∧
  (∀ {a b : Int} {A B : Prop}, zZ (zg a b) A B ↔ (a < b → A) ∧ (b ≤ a → B)) ∧ (∀ {a b : Int} {A B : Prop}, zZ (leB a b) A B ↔ (a ≤ b → A) ∧ (b < a → B)) ∧
  (∀ {a b : Int} {A B : Prop}, zZ (a != b) A B ↔ (a ≠ b → A) ∧ (a = b → B)) ∧ (∀ {a b : Int} {A B : Prop}, zZ (a == b) A B ↔ (a = b → A) ∧ (a ≠ b → B)) ∧
  (∀ {A B : Prop}, zZ true A B ↔ A) ∧ (∀ n : Nat, (n : Int).toNat = n) ∧ (∀ n : Nat, 0 + n = n) ∧ (∀ n : Nat, 0 ≤ n) ∧ (∀ n : Nat, n - 0 = n) ∧
  (∀ (k : IntKind) (n : Int), AV.int (.v (.int k n)) = n) ∧ (∀ b : Bool, (b || true) = true) ∧ (∀ {α : Type} (a b : α), (bif true then a else b) = a) ∧ (∀ {α : Type} (a b : α), (bif false then a else b) = b) :=
 ⟨zT, true_and, and_true, oN, Qu, Js, Iw, KS, Zi, yy, Ip, IA, HL, HW, Xi, Int.toNat_natCast, Nat.zero_add, Nat.zero_le, Nat.sub_zero, IN, Bool.or_true, cond_true, cond_false⟩
theorem dS : (∀ (f : Bool) (l : List Int), zB Int (AV.xl f 1 l.length fun i j => AV.v (Value.int IntKind.i64 (l.getD i 0))) = true) ∧ (∀ (f : Bool) (l : List Int), zB Int (AV.xl f 1 l.length fun i j => AV.v (Value.int IntKind.i64 (l.getD i zr.dflt))) = true) ∧
  (∀ (f : Bool) (l : List Int), yx (AV.xl f 1 l.length fun i j => AV.v (Value.int IntKind.i64 (l.getD i 0))) = l) ∧ (∀ (f : Bool) (l : List Int), yx (AV.xl f 1 l.length fun i j => AV.v (Value.int IntKind.i64 (l.getD i zr.dflt))) = l) ∧
  (∀ (f : Bool) (l : List Int), zV (AV.xl f 1 l.length fun i j => AV.v (Value.int IntKind.i64 (l.getD i 0))) = l) ∧ (∀ (f : Bool) (l : List Int), zV (AV.xl f 1 l.length fun i j => AV.v (Value.int IntKind.i64 (l.getD i zr.dflt))) = l) :=
 ⟨Io, HX, GR, H9, gO, IC⟩
def HJ : List zn → Prop
 | [] => True
 | p :: ps => p.holds ∧ HJ ps
theorem ZF : ∀ {ps : List zn}, (∀ p ∈ ps, p.holds) → HJ ps
 | [], _ => trivial
 | _ :: _, h => ⟨h _ List.mem_cons_self, ZF fun q hq => h q (List.mem_cons_of_mem _ hq)⟩
abbrev bF (t : Bool) (A : Prop) : Prop := zZ t A False
abbrev dK (x : Int) : Bool := DB.db (yR .i64 x)
abbrev bA (a : Array UInt8) : List UInt8 := Array.toList (ByteArray.data (ByteArray.mk a))
abbrev a8 (x : UInt8) : AV := AV.v (Value.int IntKind.u8 ((UInt8.toNat x : Nat) : Int))
abbrev xI (x : List Int) : AV := AV.xl false 1 (List.length x) fun i _ => AV.v (Value.int .i64 (List.getD x i zr.dflt))
abbrev nX : Nat := 9223372036854775807
abbrev nM : Nat := 4294967280
abbrev lR : Prop := LoopState.ready = LoopState.ready ∧ X5 Code = X5 Code
abbrev cI (n : Nat) : Int := n
abbrev kI : Prop := IntKind.i64 = .i64
abbrev j2 : Prop := 2 = List.length [AV.junk, AV.junk]
abbrev lN {α : Type} (l : List α) : Nat := List.length l
abbrev lZ {α : Type} (l : List α) : Int := (↑(List.length l) : Int)
abbrev gD {α : Type} (l : List α) (i : Nat) (d : α) : α := List.getD l i d
abbrev iZ : Int := 0
abbrev iO : Int := 1
abbrev iX : Int := 9223372036854775807
abbrev iN : Int := -9223372036854775808
abbrev iB : Int := 1000000000
abbrev aI (n : Int) : AV := AV.v (Value.int .i64 n)
end Go.Ar
