/- Numbers as the reference reads them: the sign, what stands ahead of and behind the slash; small numbers. -/
import Derived.Test.YtgpbohfbhfbelaaGreatDoorArA
import Derived.Test.YtgpbohfbhfbelaaGreatDoorSxU
set_option linter.unusedSimpArgs false
set_option linter.unusedVariables false
namespace Go.Ar
open Go Go.Sx Go.Lib
set_option maxRecDepth 100000
theorem We {s : zL} {i : Nat} (h : i < s.length) : s.getD i 0 ∈ s := by
 simp_all
theorem tc {s : zL} {c : UInt8} (h : c ∈ s) : ∃ i, i < s.length ∧ s.getD i 0 = c := by
 obtain ⟨i, hi, rfl⟩ := List.mem_iff_getElem.1 h
 exact ⟨i, hi, by rw [List.getD_eq_getElem?_getD, List.getElem?_eq_getElem hi]; rfl⟩
theorem getD_takeS {s : zL} {z i : Nat} (h : i < z) : (s.take z).getD i 0 = s.getD i 0 := by
 simp_all
theorem Mm {s : zL} {z : Nat} (hz : z < s.length) (h : ∀ i, i < z → s.getD i 0 ≠ 47) (e : s.getD z 0 = 47) :
  zp s = s.take z ∧ zg s = s.drop (z + 1) ∧ zk s = true := by
 have e1 : s.take z ++ 47 :: s.drop (z + 1) = s := by
  conv => rhs; rw [← List.take_append_drop z s]
  congr 1
  rw [List.drop_eq_getElem_cons hz, ← e, List.getD_eq_getElem?_getD, List.getElem?_eq_getElem hz]; rfl
 have h1 : ∀ c ∈ s.take z, (c != 47) = true := by
  intro c hc
  obtain ⟨i, hi, rfl⟩ := tc hc
  grind
 have := t8 (b := s.drop (z + 1)) h1
 simp_all
theorem Pw {s : zL} (h : ∀ i, i < s.length → s.getD i 0 ≠ 47) : zk s = false ∧ zp s = s ∧ zg s = [] := by
 have hs : zk s = false := qJ fun c hc => by
  obtain ⟨i, hi, rfl⟩ := tc hc
  simp_all
 exact ⟨hs, X7 hs⟩
def zG (a : zL) : Bool := a.getD 0 0 == 45
def zu (a : zL) : zL := bif zG a then a.drop 1 else a
theorem X6 (a : zL) : (zu a).length ≤ a.length := by
 unfold zu
 grind
theorem Ya (s : zL) : (zp s).length ≤ s.length := by
 unfold zp
 exact List.Sublist.length_le (List.takeWhile_sublist _)
theorem Vp (s : zL) : (zg s).length ≤ s.length := by
 unfold zg
 rw [List.length_drop]
 have := List.Sublist.length_le (List.dropWhile_sublist (· != (47 : UInt8)) (l := s))
 omega
theorem sH (a : zL) : (zG a = true ∧ a = 45 :: zu a) ∨ (zG a = false ∧ zu a = a ∧ ¬ (0 < (zp a).length ∧ (zp a).getD 0 0 = 45)) := by
 unfold zu zG
 match a with
 | [] => exact .inr ⟨rfl, rfl, fun h => by cases h.1⟩
 | c :: r =>
  by_cases hc : c = 45
  ·simp_all
  ·have e : ((c :: r).getD 0 0 == (45 : UInt8)) = false := beq_eq_false_iff_ne.2 hc
   rw [e]
   refine .inr ⟨rfl, rfl, fun h => ?_⟩
   unfold zp at h
   rw [List.takeWhile_cons] at h
   grind
theorem IE (r : zL) : zp (45 :: r) = 45 :: zp r ∧ zg (45 :: r) = zg r ∧ zk (45 :: r) = zk r := by
 refine ⟨?_, ?_, ?_⟩
 all_goals rfl
theorem YH (a : zL) : zp a = (bif zG a then 45 :: zp (zu a) else zp (zu a)) ∧ zg a = zg (zu a) ∧ zk a = zk (zu a) ∧
  zC (zp a) = (z6 (zp (zu a)) && !(zG a && zp (zu a) == [48])) ∧ wu (zp a) = (zp (zu a)).length ∧
  zJ a = (bif zG a then -(zm (zp (zu a)) : Int) else (zm (zp (zu a)) : Int)) ∧ zP a = (bif zk (zu a) then zm (zg (zu a)) else 1) := by
 rcases sH a with ⟨h1, h2⟩ | ⟨h1, h2, h3⟩
 ·obtain ⟨c1, c2, c3⟩ := IE (zu a)
  rw [← h2] at c1 c2 c3
  unfold zJ zP
  rw [c1, c2, c3, h1]
  exact ⟨rfl, rfl, rfl, by show (z6 _ && _) = _; simp, rfl, rfl, rfl⟩
 ·obtain ⟨p1, p2, p3⟩ := Yw h3
  unfold zJ zP
  simp_all
theorem WU (a : zL) : (zJ a).natAbs = zm (zp (zu a)) := by
 obtain ⟨_, _, _, _, _, h, _⟩ := YH a
 grind
def XQ (a : zL) : Bool := z6 (zp (zu a)) && !(zG a && zp (zu a) == [48]) && (!zk (zu a) || z6 (zg (zu a)) && !(zg (zu a) == [48]) && !(zg (zu a) == [49]))
theorem X9 (a : zL) : ZM a = XQ a := by
 obtain ⟨h1, h2, h3, h4, _⟩ := YH a
 unfold ZM XQ
 simp_all
theorem VE {a : zL} (h : XQ a = false) : zN a = 11 := by
 unfold zN
 rw [X9, h]; rfl
theorem sT {a : zL} (h : XQ a = true) (hl : 300 < (zp (zu a)).length ∨ 300 < (zg (zu a)).length) : zN a = 4 := by
 obtain ⟨_, h2, _, _, h5, _⟩ := YH a
 unfold zN
 rw [X9, h, h5, h2, show (Nat.blt 300 (zp (zu a)).length || Nat.blt 300 (zg (zu a)).length) = true by
  simp_all]
 rfl
theorem VJ {a : zL} (h : XQ a = true) (hl : (zp (zu a)).length ≤ 300 ∧ (zg (zu a)).length ≤ 300) (hs : zk (zu a) = true) :
  zN a = bif Nat.beq (Nat.gcd (zm (zp (zu a))) (zm (zg (zu a)))) 1 then 0 else 11 := by
 obtain ⟨_, h2, _, _, h5, _, h7⟩ := YH a
 unfold zN
 rw [X9, h, h5, h2, WU, h7, hs, show (Nat.blt 300 (zp (zu a)).length || Nat.blt 300 (zg (zu a)).length) = false by
  rw [Bool.or_eq_false_iff, Bool.eq_false_iff, Bool.eq_false_iff, Ne, Ne, zA, zA]; omega]
 rfl
theorem tO {a : zL} (h : XQ a = true) (hl : (zp (zu a)).length ≤ 300) (hs : zk (zu a) = false) : zN a = 0 := by
 obtain ⟨_, h2, _, _, h5, _, h7⟩ := YH a
 have hd : zg (zu a) = [] := (X7 hs).2
 unfold zN
 rw [X9, h, h5, h2, h7, hs, hd, show (Nat.blt 300 (zp (zu a)).length || Nat.blt 300 ([] : zL).length) = false by
  rw [Bool.or_eq_false_iff, Bool.eq_false_iff, Bool.eq_false_iff, Ne, Ne, zA, zA]
  simp_all]
 simp
theorem Yl {s : zL} (h : z6 s = true) {k : Nat} (hl : s.length ≤ k) : zm s < 10 ^ k := by
 have h1 := Xh (l := s) (List.all_eq_true.2 (Zx.1 h).2.1)
 exact Nat.lt_of_lt_of_le h1 (Nat.pow_le_pow_right (by omega) hl)
end Go.Ar

namespace Go.Ar
open Go Go.Sx Go.Lib
set_option maxRecDepth 100000
class xD (α : Type) [zi α] : Prop where
 dec : ∀ a : α, zi.dec (zi.enc a) = a
 ok : ∀ a : α, zi.ok (α := α) (zi.enc a) = true
theorem Ot {f : Nat → Bool} : ∀ {n : Nat}, (∀ i, i < n → f i = true) → xm f n = true
 | 0, _ => rfl
 | n + 1, h => by simp only [xm, Bool.and_eq_true]; exact ⟨Ot fun i hi => h i (by omega), h n (by omega)⟩
section
variable {α : Type} [zi α] [xD α]
theorem Ts (f : Bool) (l : List α) (n : Nat) : So (AV.xl f n l.length fun i j => zi.enc (l.getD i zi.dflt) j) = l := by
 show rH l.length (fun i => zi.dec (zi.enc (l.getD i zi.dflt))) = l
 simp only [xD.dec]
 exact QW l _
theorem RR (l : List α) : So (ZF l) = l := Ts false l _
theorem RG (f : Bool) (l : List α) : Zy α (AV.xl f (zi.n α) l.length fun i j => zi.enc (l.getD i zi.dflt) j) = true := by
 show (Nat.beq (zi.n α) (zi.n α) && xm (fun i => zi.ok (α := α) (zi.enc (l.getD i zi.dflt))) l.length) = true
 rw [Bool.and_eq_true]
 exact ⟨Nat.beq_refl _, Ot fun i _ => xD.ok _⟩
theorem TZ (l : List α) : Zy α (ZF l) = true := RG false l
theorem Ow (a : α) : Zi (yw a) = a := xD.dec a
theorem qB (a : α) : yZ α (yw a) = true := by
 show (Nat.beq (zi.n α) (zi.n α) && zi.ok (α := α) (zi.enc a)) = true
 rw [Bool.and_eq_true]
 exact ⟨Nat.beq_refl _, xD.ok _⟩
end
instance : xD Int := ⟨fun _ => rfl, fun _ => rfl⟩
instance : xD Bool := ⟨fun _ => rfl, fun _ => rfl⟩
instance : xD (List UInt8) := ⟨fun _ => rfl, fun _ => rfl⟩
theorem GP (k : IntKind) (n : Int) : AV.int (.v (.int k n)) = n := rfl
theorem Za (z : Nat) : zH 0 (z : Int) = Nat.blt 0 z := by rw [Bool.eq_iff_iff, zR, zA]; omega
theorem VB (z : Nat) : ((z : Int) - 1).toNat = z - 1 := by omega
theorem Y3 {A B : Prop} : zY true A B ↔ A := by simp [zv]
theorem row_one (r : Nat → AV) : Sx.rowAt [r] = fun _ j => r j := by
 funext i j
 unfold Sx.rowAt
 cases i with
 | zero => rfl
 | succ i => rfl
def zW (x : AV) : List Int := So x
theorem fN (f : Bool) (l : List Int) : Zy Int (AV.xl f 1 l.length fun i j => AV.v (Value.int IntKind.i64 (l.getD i 0))) = true := RG f l
theorem Gx (f : Bool) (l : List Int) : Zy Int (AV.xl f 1 l.length fun i j => AV.v (Value.int IntKind.i64 (l.getD i zi.dflt))) = true := RG f l
theorem EQ (f : Bool) (l : List Int) : So (AV.xl f 1 l.length fun i j => AV.v (Value.int IntKind.i64 (l.getD i 0))) = l := Ts f l 1
theorem Fz (f : Bool) (l : List Int) : So (AV.xl f 1 l.length fun i j => AV.v (Value.int IntKind.i64 (l.getD i zi.dflt))) = l := Ts f l 1
theorem eZ (f : Bool) (l : List Int) : zW (AV.xl f 1 l.length fun i j => AV.v (Value.int IntKind.i64 (l.getD i 0))) = l := Ts f l 1
theorem Gr (f : Bool) (l : List Int) : zW (AV.xl f 1 l.length fun i j => AV.v (Value.int IntKind.i64 (l.getD i zi.dflt))) = l := Ts f l 1
def KY (f : FuncId) : AV := .fn (.func f) 0 (fun _ => .junk) 0 (fun _ => .junk)
theorem fm {a b : Nat} (h : a ≤ b) : 10 ^ a ≤ 10 ^ b := Nat.pow_le_pow_right (by omega) h
theorem kC (k m : Nat) (h : m = k + 1) : 10 ^ m = 10 ^ k * 10 := by rw [h, Nat.pow_succ]
theorem Lq (k m : Nat) (h : m = k + k) : 10 ^ m = 10 ^ k * 10 ^ k := by rw [h, Nat.pow_add]
theorem Wt {c : Bool} {A B : Prop} (h : c = true) (ha : A) : zY c A B := by rw [h, Y3]; exact ha
theorem sS : (∀ x : AV, zB x x) ∧ (∀ p : Prop, (True ∧ p) = p) ∧ (∀ p : Prop, (p ∧ True) = p) ∧ (∀ x : Bool, zS true x = x) ∧ (∀ x : Bool, zS false x = !x) ∧
  (∀ {x : Bool} {A : Prop}, zY (!x || x) A False ↔ A) ∧ (∀ a b : Bool, (bif a then true else b) = (a || b)) ∧ (∀ a b : Bool, (bif a then b else false) = (a && b)) ∧
  (∀ {x : Bool} {p : Prop} [DB p] {A : Prop}, zY (!x || DB.db p) A False ↔ (x = true → p) ∧ A) ∧ (∀ {p : Prop} [DB p] {A : Prop}, zY (DB.db p) A False ↔ p ∧ A) ∧
  (∀ {a b : Int} {A B : Prop}, zY (zH a b) A B ↔ (a < b → A) ∧ (b ≤ a → B)) ∧ (∀ {a b : Int} {A B : Prop}, zY (leB a b) A B ↔ (a ≤ b → A) ∧ (b < a → B)) ∧
  (∀ {a b : Int} {A B : Prop}, zY (a != b) A B ↔ (a ≠ b → A) ∧ (a = b → B)) ∧ (∀ {a b : Int} {A B : Prop}, zY (a == b) A B ↔ (a = b → A) ∧ (a ≠ b → B)) ∧
  (∀ {A B : Prop}, zY true A B ↔ A) ∧ (∀ n : Nat, (n : Int).toNat = n) ∧ (∀ n : Nat, 0 + n = n) ∧ (∀ n : Nat, 0 ≤ n) ∧ (∀ n : Nat, n - 0 = n) ∧
  (∀ (k : IntKind) (n : Int), AV.int (.v (.int k n)) = n) ∧ (∀ b : Bool, (b || true) = true) ∧ (∀ {α : Type} (a b : α), (bif true then a else b) = a) ∧ (∀ {α : Type} (a b : α), (bif false then a else b) = b) :=
 ⟨zr, true_and, and_true, Nq, P7, Ic, I3, jf, ZR, ZE, gK, GA, fZ, H7, Y3, Int.toNat_natCast, Nat.zero_add, Nat.zero_le, Nat.sub_zero, GP, Bool.or_true, cond_true, cond_false⟩
theorem dS : (∀ (f : Bool) (l : List Int), Zy Int (AV.xl f 1 l.length fun i j => AV.v (Value.int IntKind.i64 (l.getD i 0))) = true) ∧ (∀ (f : Bool) (l : List Int), Zy Int (AV.xl f 1 l.length fun i j => AV.v (Value.int IntKind.i64 (l.getD i zi.dflt))) = true) ∧
  (∀ (f : Bool) (l : List Int), So (AV.xl f 1 l.length fun i j => AV.v (Value.int IntKind.i64 (l.getD i 0))) = l) ∧ (∀ (f : Bool) (l : List Int), So (AV.xl f 1 l.length fun i j => AV.v (Value.int IntKind.i64 (l.getD i zi.dflt))) = l) ∧
  (∀ (f : Bool) (l : List Int), zW (AV.xl f 1 l.length fun i j => AV.v (Value.int IntKind.i64 (l.getD i 0))) = l) ∧ (∀ (f : Bool) (l : List Int), zW (AV.xl f 1 l.length fun i j => AV.v (Value.int IntKind.i64 (l.getD i zi.dflt))) = l) :=
 ⟨fN, Gx, EQ, Fz, eZ, Gr⟩
def gV : List zn → Prop
 | [] => True
 | p :: ps => p.holds ∧ gV ps
theorem Zo : ∀ {ps : List zn}, (∀ p ∈ ps, p.holds) → gV ps
 | [], _ => trivial
 | _ :: _, h => ⟨h _ List.mem_cons_self, Zo fun q hq => h q (List.mem_cons_of_mem _ hq)⟩
abbrev bF (t : Bool) (A : Prop) : Prop := zY t A False
abbrev dK (x : Int) : Bool := DB.db (Y1 .i64 x)
abbrev bA (a : Array UInt8) : List UInt8 := Array.toList (ByteArray.data (ByteArray.mk a))
abbrev a8 (x : UInt8) : AV := AV.v (Value.int IntKind.u8 ((UInt8.toNat x : Nat) : Int))
abbrev xI (x : List Int) : AV := AV.xl false 1 (List.length x) fun i _ => AV.v (Value.int .i64 (List.getD x i zi.dflt))
abbrev nX : Nat := 9223372036854775807
abbrev nM : Nat := 4294967280
abbrev lR : Prop := LoopState.ready = LoopState.ready ∧ wP Code = wP Code
abbrev cI (n : Nat) : Int := n
abbrev kI : Prop := IntKind.i64 = .i64
abbrev j2 : Prop := 2 = List.length [AV.junk, AV.junk]
abbrev lN {α : Type} (l : List α) : Nat := List.length l
abbrev lZ {α : Type} (l : List α) : Int := (↑(List.length l) : Int)
abbrev gD {α : Type} (l : List α) (i : Nat) (d : α) : α := List.getD l i d
abbrev iZ : Int := 0
abbrev iO : Int := 1
abbrev iX : Int := 9223372036854775807
abbrev iN : Int := -9223372036854775808
abbrev iB : Int := 1000000000
abbrev aI (n : Int) : AV := AV.v (Value.int .i64 n)
end Go.Ar
