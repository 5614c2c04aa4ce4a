/- Numbers as the reference reads them: the sign, what stands ahead of and behind the slash; small numbers. -/
import Derived.Test.YthbpnknhfokadaaGreatDoorArA
import Derived.Test.YthbpnknhfokadaaGreatDoorSxU
set_option linter.unusedSimpArgs false
set_option linter.unusedVariables false
namespace Go.Ar
open Go Go.Sx Go.Lib
set_option maxRecDepth 100000
theorem wL {s : zj} {i : Nat} (h : i < s.length) : s.getD i 0 ∈ s := by
 simp_all
theorem uB {s : zj} {c : UInt8} (h : c ∈ s) : ∃ i, i < s.length ∧ s.getD i 0 = c := by
 obtain ⟨i, hi, rfl⟩ := List.mem_iff_getElem.1 h
 exact ⟨i, hi, by rw [List.getD_eq_getElem?_getD, List.getElem?_eq_getElem hi]; rfl⟩
theorem getD_takeS {s : zj} {z i : Nat} (h : i < z) : (s.take z).getD i 0 = s.getD i 0 := by
 simp_all
theorem KU {s : zj} {z : Nat} (hz : z < s.length) (h : ∀ i, i < z → s.getD i 0 ≠ 47) (e : s.getD z 0 = 47) :
  zO s = s.take z ∧ zB s = s.drop (z + 1) ∧ zJ s = true := by
 have e1 : s.take z ++ 47 :: s.drop (z + 1) = s := by
  conv => rhs; rw [← List.take_append_drop z s]
  congr 1
  rw [List.drop_eq_getElem_cons hz, ← e, List.getD_eq_getElem?_getD, List.getElem?_eq_getElem hz]; rfl
 have h1 : ∀ c ∈ s.take z, (c != 47) = true := by
  intro c hc
  obtain ⟨i, hi, rfl⟩ := uB hc
  grind
 have := uR (b := s.drop (z + 1)) h1
 simp_all
theorem N5 {s : zj} (h : ∀ i, i < s.length → s.getD i 0 ≠ 47) : zJ s = false ∧ zO s = s ∧ zB s = [] := by
 have hs : zJ s = false := ud fun c hc => by
  obtain ⟨i, hi, rfl⟩ := uB hc
  simp_all
 exact ⟨hs, x3 hs⟩
def zL (a : zj) : Bool := a.getD 0 0 == 45
def zR (a : zj) : zj := bif zL a then a.drop 1 else a
theorem Uk (a : zj) : (zR a).length ≤ a.length := by
 unfold zR
 grind
theorem W5 (s : zj) : (zO s).length ≤ s.length := by
 unfold zO
 exact List.Sublist.length_le (List.takeWhile_sublist _)
theorem Sl (s : zj) : (zB s).length ≤ s.length := by
 unfold zB
 rw [List.length_drop]
 have := List.Sublist.length_le (List.dropWhile_sublist (· != (47 : UInt8)) (l := s))
 omega
theorem oo (a : zj) : (zL a = true ∧ a = 45 :: zR a) ∨ (zL a = false ∧ zR a = a ∧ ¬ (0 < (zO a).length ∧ (zO a).getD 0 0 = 45)) := by
 unfold zR zL
 match a with
 | [] => exact .inr ⟨rfl, rfl, fun h => by cases h.1⟩
 | c :: r =>
  by_cases hc : c = 45
  ·simp_all
  ·have e : ((c :: r).getD 0 0 == (45 : UInt8)) = false := beq_eq_false_iff_ne.2 hc
   rw [e]
   refine .inr ⟨rfl, rfl, fun h => ?_⟩
   unfold zO at h
   rw [List.takeWhile_cons] at h
   grind
theorem jv (r : zj) : zO (45 :: r) = 45 :: zO r ∧ zB (45 :: r) = zB r ∧ zJ (45 :: r) = zJ r := by
 refine ⟨?_, ?_, ?_⟩
 all_goals rfl
theorem YJ (a : zj) : zO a = (bif zL a then 45 :: zO (zR a) else zO (zR a)) ∧ zB a = zB (zR a) ∧ zJ a = zJ (zR a) ∧
  ZZ (zO a) = (Z2 (zO (zR a)) && !(zL a && zO (zR a) == [48])) ∧ Xj (zO a) = (zO (zR a)).length ∧
  zM a = (bif zL a then -(zd (zO (zR a)) : Int) else (zd (zO (zR a)) : Int)) ∧ zP a = (bif zJ (zR a) then zd (zB (zR a)) else 1) := by
 rcases oo a with ⟨h1, h2⟩ | ⟨h1, h2, h3⟩
 ·obtain ⟨c1, c2, c3⟩ := jv (zR a)
  rw [← h2] at c1 c2 c3
  unfold zM zP
  rw [c1, c2, c3, h1]
  exact ⟨rfl, rfl, rfl, by show (Z2 _ && _) = _; simp, rfl, rfl, rfl⟩
 ·obtain ⟨p1, p2, p3⟩ := Ws h3
  unfold zM zP
  simp_all
theorem Uh (a : zj) : (zM a).natAbs = zd (zO (zR a)) := by
 obtain ⟨_, _, _, _, _, h, _⟩ := YJ a
 grind
def wk (a : zj) : Bool := Z2 (zO (zR a)) && !(zL a && zO (zR a) == [48]) && (!zJ (zR a) || Z2 (zB (zR a)) && !(zB (zR a) == [48]) && !(zB (zR a) == [49]))
theorem XN (a : zj) : Zp a = wk a := by
 obtain ⟨h1, h2, h3, h4, _⟩ := YJ a
 unfold Zp wk
 simp_all
theorem rY {a : zj} (h : wk a = false) : zh a = 11 := by
 unfold zh
 rw [XN, h]; rfl
theorem pJ {a : zj} (h : wk a = true) (hl : 300 < (zO (zR a)).length ∨ 300 < (zB (zR a)).length) : zh a = 4 := by
 obtain ⟨_, h2, _, _, h5, _⟩ := YJ a
 unfold zh
 rw [XN, h, h5, h2, show (Nat.blt 300 (zO (zR a)).length || Nat.blt 300 (zB (zR a)).length) = true by
  simp_all]
 rfl
theorem UR {a : zj} (h : wk a = true) (hl : (zO (zR a)).length ≤ 300 ∧ (zB (zR a)).length ≤ 300) (hs : zJ (zR a) = true) :
  zh a = bif Nat.beq (Nat.gcd (zd (zO (zR a))) (zd (zB (zR a)))) 1 then 0 else 11 := by
 obtain ⟨_, h2, _, _, h5, _, h7⟩ := YJ a
 unfold zh
 rw [XN, h, h5, h2, Uh, h7, hs, show (Nat.blt 300 (zO (zR a)).length || Nat.blt 300 (zB (zR a)).length) = false by
  rw [Bool.or_eq_false_iff, Bool.eq_false_iff, Bool.eq_false_iff, Ne, Ne, ZY, ZY]; omega]
 rfl
theorem Rw {a : zj} (h : wk a = true) (hl : (zO (zR a)).length ≤ 300) (hs : zJ (zR a) = false) : zh a = 0 := by
 obtain ⟨_, h2, _, _, h5, _, h7⟩ := YJ a
 have hd : zB (zR a) = [] := (x3 hs).2
 unfold zh
 rw [XN, h, h5, h2, h7, hs, hd, show (Nat.blt 300 (zO (zR a)).length || Nat.blt 300 ([] : zj).length) = false by
  rw [Bool.or_eq_false_iff, Bool.eq_false_iff, Bool.eq_false_iff, Ne, Ne, ZY, ZY]
  simp_all]
 simp
theorem Wg {s : zj} (h : Z2 s = true) {k : Nat} (hl : s.length ≤ k) : zd s < 10 ^ k := by
 have h1 := WW (l := s) (List.all_eq_true.2 (Zt.1 h).2.1)
 exact Nat.lt_of_lt_of_le h1 (Nat.pow_le_pow_right (by omega) hl)
end Go.Ar

namespace Go.Ar
open Go Go.Sx Go.Lib
set_option maxRecDepth 100000
class y9 (α : Type) [zU α] : Prop where
 dec : ∀ a : α, zU.dec (zU.enc a) = a
 ok : ∀ a : α, zU.ok (α := α) (zU.enc a) = true
theorem sw {f : Nat → Bool} : ∀ {n : Nat}, (∀ i, i < n → f i = true) → uW f n = true
 | 0, _ => rfl
 | n + 1, h => by simp only [uW, Bool.and_eq_true]; exact ⟨sw fun i hi => h i (by omega), h n (by omega)⟩
section
variable {α : Type} [zU α] [y9 α]
theorem Uc (f : Bool) (l : List α) (n : Nat) : ZO (AV.xl f n l.length fun i j => zU.enc (l.getD i zU.dflt) j) = l := by
 show sH l.length (fun i => zU.dec (zU.enc (l.getD i zU.dflt))) = l
 simp only [y9.dec]
 exact SA l _
theorem VA (l : List α) : ZO (ZE l) = l := Uc false l _
theorem Tl (f : Bool) (l : List α) : zD α (AV.xl f (zU.n α) l.length fun i j => zU.enc (l.getD i zU.dflt) j) = true := by
 show (Nat.beq (zU.n α) (zU.n α) && uW (fun i => zU.ok (α := α) (zU.enc (l.getD i zU.dflt))) l.length) = true
 rw [Bool.and_eq_true]
 exact ⟨Nat.beq_refl _, sw fun i _ => y9.ok _⟩
theorem vY (l : List α) : zD α (ZE l) = true := Tl false l
theorem WZ (a : α) : Zn (Yh a) = a := y9.dec a
theorem XE (a : α) : yw α (Yh a) = true := by
 show (Nat.beq (zU.n α) (zU.n α) && zU.ok (α := α) (zU.enc a)) = true
 rw [Bool.and_eq_true]
 exact ⟨Nat.beq_refl _, y9.ok _⟩
end
instance : y9 Int := ⟨fun _ => rfl, fun _ => rfl⟩
instance : y9 Bool := ⟨fun _ => rfl, fun _ => rfl⟩
instance : y9 (List UInt8) := ⟨fun _ => rfl, fun _ => rfl⟩
theorem iY (k : IntKind) (n : Int) : AV.int (.v (.int k n)) = n := rfl
theorem xz (z : Nat) : zg 0 (z : Int) = Nat.blt 0 z := by rw [Bool.eq_iff_iff, zq, ZY]; omega
theorem rx (z : Nat) : ((z : Int) - 1).toNat = z - 1 := by omega
theorem Xn {A B : Prop} : zZ true A B ↔ A := by simp [zX]
theorem row_one (r : Nat → AV) : Sx.rowAt [r] = fun _ j => r j := by
 funext i j
 unfold Sx.rowAt
 cases i with
 | zero => rfl
 | succ i => rfl
def zV (x : AV) : List Int := ZO x
theorem J8 (f : Bool) (l : List Int) : zD Int (AV.xl f 1 l.length fun i j => AV.v (Value.int IntKind.i64 (l.getD i 0))) = true := Tl f l
theorem iD (f : Bool) (l : List Int) : zD Int (AV.xl f 1 l.length fun i j => AV.v (Value.int IntKind.i64 (l.getD i zU.dflt))) = true := Tl f l
theorem hZ (f : Bool) (l : List Int) : ZO (AV.xl f 1 l.length fun i j => AV.v (Value.int IntKind.i64 (l.getD i 0))) = l := Uc f l 1
theorem Ig (f : Bool) (l : List Int) : ZO (AV.xl f 1 l.length fun i j => AV.v (Value.int IntKind.i64 (l.getD i zU.dflt))) = l := Uc f l 1
theorem IE (f : Bool) (l : List Int) : zV (AV.xl f 1 l.length fun i j => AV.v (Value.int IntKind.i64 (l.getD i 0))) = l := Uc f l 1
theorem iF (f : Bool) (l : List Int) : zV (AV.xl f 1 l.length fun i j => AV.v (Value.int IntKind.i64 (l.getD i zU.dflt))) = l := Uc f l 1
theorem oZ {α : Type} {l : List α} {d : α} {z : Nat} (h : z < l.length) : l.take (z + 1) = l.take z ++ [l.getD z d] := by
 simp_all
def jU (f : FuncId) : AV := .fn (.func f) 0 (fun _ => .junk) 0 (fun _ => .junk)
theorem ia {a b : Nat} (h : a ≤ b) : 10 ^ a ≤ 10 ^ b := Nat.pow_le_pow_right (by omega) h
theorem Mc (k m : Nat) (h : m = k + 1) : 10 ^ m = 10 ^ k * 10 := by rw [h, Nat.pow_succ]
theorem JU (k m : Nat) (h : m = k + k) : 10 ^ m = 10 ^ k * 10 ^ k := by rw [h, Nat.pow_add]
theorem Un {c : Bool} {A B : Prop} (h : c = true) (ha : A) : zZ c A B := by rw [h, Xn]; exact ha
theorem sS : (∀ x : AV, zE x x) ∧ (∀ p : Prop, (True ∧ p) = p) ∧ (∀ p : Prop, (p ∧ True) = p) ∧ (∀ x : Bool, zr true x = x) ∧ (∀ x : Bool, zr false x = !x) ∧
  (∀ {x : Bool} {A : Prop}, zZ (!x || x) A False ↔ A) ∧ (∀ a b : Bool, (bif a then true else b) = (a || b)) ∧ (∀ a b : Bool, (bif a then b else false) = (a && b)) ∧
  (∀ {x : Bool} {p : Prop} [DB p] {A : Prop}, zZ (!x || DB.db p) A False ↔ (x = true → p) ∧ A) ∧ (∀ {p : Prop} [DB p] {A : Prop}, zZ (DB.db p) A False ↔ p ∧ A) ∧
  (∀ {a b : Int} {A B : Prop}, zZ (zg a b) A B ↔ (a < b → A) ∧ (b ≤ a → B)) ∧ (∀ {a b : Int} {A B : Prop}, zZ (leB a b) A B ↔ (a ≤ b → A) ∧ (b < a → B)) ∧
  (∀ {a b : Int} {A B : Prop}, zZ (a != b) A B ↔ (a ≠ b → A) ∧ (a = b → B)) ∧ (∀ {a b : Int} {A B : Prop}, zZ (a == b) A B ↔ (a = b → A) ∧ (a ≠ b → B)) ∧
  (∀ {A B : Prop}, zZ true A B ↔ A) ∧ (∀ n : Nat, (n : Int).toNat = n) ∧ (∀ n : Nat, 0 + n = n) ∧ (∀ n : Nat, 0 ≤ n) ∧ (∀ n : Nat, n - 0 = n) ∧
  (∀ (k : IntKind) (n : Int), AV.int (.v (.int k n)) = n) ∧ (∀ b : Bool, (b || true) = true) ∧ (∀ {α : Type} (a b : α), (bif true then a else b) = a) ∧ (∀ {α : Type} (a b : α), (bif false then a else b) = b) :=
 ⟨zS, true_and, and_true, oW, qu, KA, jr, Ly, Zj, yZ, J2, iS, iP, io, Xn, Int.toNat_natCast, Nat.zero_add, Nat.zero_le, Nat.sub_zero, iY, Bool.or_true, cond_true, cond_false⟩
theorem dS : (∀ (f : Bool) (l : List Int), zD Int (AV.xl f 1 l.length fun i j => AV.v (Value.int IntKind.i64 (l.getD i 0))) = true) ∧ (∀ (f : Bool) (l : List Int), zD Int (AV.xl f 1 l.length fun i j => AV.v (Value.int IntKind.i64 (l.getD i zU.dflt))) = true) ∧
  (∀ (f : Bool) (l : List Int), ZO (AV.xl f 1 l.length fun i j => AV.v (Value.int IntKind.i64 (l.getD i 0))) = l) ∧ (∀ (f : Bool) (l : List Int), ZO (AV.xl f 1 l.length fun i j => AV.v (Value.int IntKind.i64 (l.getD i zU.dflt))) = l) ∧
  (∀ (f : Bool) (l : List Int), zV (AV.xl f 1 l.length fun i j => AV.v (Value.int IntKind.i64 (l.getD i 0))) = l) ∧ (∀ (f : Bool) (l : List Int), zV (AV.xl f 1 l.length fun i j => AV.v (Value.int IntKind.i64 (l.getD i zU.dflt))) = l) :=
 ⟨J8, iD, hZ, Ig, IE, iF⟩
def iJ : List zn → Prop
 | [] => True
 | p :: ps => p.holds ∧ iJ ps
theorem ZH : ∀ {ps : List zn}, (∀ p ∈ ps, p.holds) → iJ ps
 | [], _ => trivial
 | _ :: _, h => ⟨h _ List.mem_cons_self, ZH fun q hq => h q (List.mem_cons_of_mem _ hq)⟩
abbrev bF (t : Bool) (A : Prop) : Prop := zZ t A False
abbrev dK (x : Int) : Bool := DB.db (yn .i64 x)
abbrev bA (a : Array UInt8) : List UInt8 := Array.toList (ByteArray.data (ByteArray.mk a))
abbrev a8 (x : UInt8) : AV := AV.v (Value.int IntKind.u8 ((UInt8.toNat x : Nat) : Int))
abbrev xI (x : List Int) : AV := AV.xl false 1 (List.length x) fun i _ => AV.v (Value.int .i64 (List.getD x i zU.dflt))
abbrev nX : Nat := 9223372036854775807
abbrev nM : Nat := 4294967280
abbrev lR : Prop := LoopState.ready = LoopState.ready ∧ XD Code = XD Code
abbrev cI (n : Nat) : Int := n
abbrev kI : Prop := IntKind.i64 = .i64
abbrev j2 : Prop := 2 = List.length [AV.junk, AV.junk]
abbrev lN {α : Type} (l : List α) : Nat := List.length l
abbrev lZ {α : Type} (l : List α) : Int := (↑(List.length l) : Int)
abbrev gD {α : Type} (l : List α) (i : Nat) (d : α) : α := List.getD l i d
abbrev iZ : Int := 0
abbrev iO : Int := 1
abbrev iX : Int := 9223372036854775807
abbrev iN : Int := -9223372036854775808
abbrev iB : Int := 1000000000
abbrev aI (n : Int) : AV := AV.v (Value.int .i64 n)
end Go.Ar
