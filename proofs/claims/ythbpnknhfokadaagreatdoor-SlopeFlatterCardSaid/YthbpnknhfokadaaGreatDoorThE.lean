/- rational: nativeOf. -/
import Derived.Test.YthbpnknhfokadaaGreatDoorThS
set_option linter.unusedSimpArgs false
set_option linter.unusedVariables false
namespace Go.Te
open Go Go.Sx Go.Proofs Go.Ar
set_option maxRecDepth 100000
set_option maxHeartbeats 4000000
def z8 (a : zj) : Bool := zH a == 0 && leB ((zm (zQ a)).length : Int) 8 && leB ((zB (zQ a)).length : Int) 8
theorem UR (s : zj) : wJ s ++ s.drop (wJ s).length = s := by
 have h : s = s.takeWhile Zc ++ s.dropWhile Zc := (List.takeWhile_append_dropWhile).symm
 have gen : ∀ t u : zj, t ++ u = s → s.drop t.length = u := by
  rintro t u rfl
  exact List.drop_left
 have h2 : s.drop (wJ s).length = s.dropWhile Zc := gen _ _ h.symm
 rw [h2]
 exact h.symm
theorem MZ (s : zj) : ∀ c ∈ wJ s, Zc c = true := fun c hc => List.all_eq_true.1 (List.all_takeWhile (l := s) (p := Zc)) c hc
theorem X4 {s : zj} : Z9 s = true ↔ Z8 (wJ s) = true ∧ (wJ s).length ≤ 8 := by
 unfold Z9
 rw [Bool.and_eq_true, Zx]
 exact ⟨fun h => ⟨h.1, by omega⟩, fun h => ⟨h.1, by omega⟩⟩
theorem XS {s : zj} (h : Z9 s = true) : ZV s = (zD (wJ s) : Int) ∧ zA s = s.drop (wJ s).length ∧ wJ s ++ zA s = s ∧ 0 ≤ ZV s ∧ ZV s ≤ 99999999 := by
 have e1 : ZV s = (zD (wJ s) : Int) := by unfold ZV; rw [h]; rfl
 have e2 : zA s = s.drop (wJ s).length := by unfold zA; rw [h]; rfl
 obtain ⟨h1, h2⟩ := X4.1 h
 have b := vu h1 (k := 8) h2
 rw [show 10 ^ 8 = 100000000 from by decide] at b
 exact ⟨e1, e2, by rw [e2]; exact UR s, by omega, by omega⟩
theorem S9 {s : zj} (h : Z8 s = true) : wJ s = s := by
 have := ry (a := s) (b := []) (ZS.1 h).2.1
 rw [List.append_nil] at this
 rw [this]
 show s ++ [] = s
 simp
theorem rA {s : zj} (h : Z8 s = true) (hl : s.length ≤ 8) : Z9 s = true ∧ ZV s = (zD s : Int) ∧ zA s = [] := by
 have ht := S9 h
 have ho : Z9 s = true := X4.2 (by rw [ht]; exact ⟨h, hl⟩)
 obtain ⟨n1, n2, _⟩ := XS ho
 rw [ht] at n1 n2
 exact ⟨ho, n1, by rw [n2]; simp⟩
theorem tV {s : zj} (h : Z9 s = true) (hr : zA s = []) : Z8 s = true ∧ s.length ≤ 8 ∧ ZV s = (zD s : Int) := by
 obtain ⟨n1, n2, n3, _⟩ := XS h
 rw [hr, List.append_nil] at n3
 obtain ⟨h1, h2⟩ := X4.1 h
 rw [n3] at h1 h2 n1
 exact ⟨h1, h2, n1⟩
theorem Xg {a : zj} : z8 a = true ↔ Ws a = true ∧ (zm (zQ a)).length ≤ 8 ∧ (zB (zQ a)).length ≤ 8 ∧ (zi (zQ a) = true → Nat.gcd (zD (zm (zQ a))) (zD (zB (zQ a))) = 1) := by
 unfold z8
 rw [Bool.and_eq_true, Bool.and_eq_true, Zx, Zx, beq_iff_eq]
 constructor
 ·rintro ⟨⟨h1, h2⟩, h3⟩
  cases hf : Ws a with
  | false => rw [rF hf] at h1; cases h1
  | true =>
   refine ⟨rfl, by omega, by omega, fun hs => ?_⟩
   rw [UO hf ⟨by omega, by omega⟩ hs] at h1
   cases hg : Nat.beq (Nat.gcd (zD (zm (zQ a))) (zD (zB (zQ a)))) 1 with
   | true => exact Nat.eq_of_beq_eq_true hg
   | false => rw [hg] at h1; cases h1
 ·rintro ⟨h1, h2, h3, h4⟩
  refine ⟨⟨?_, by omega⟩, by omega⟩
  cases hs : zi (zQ a) with
  | false => exact Rx h1 (by omega) hs
  | true =>
   rw [UO h1 ⟨by omega, by omega⟩ hs, h4 hs]
   rfl
theorem xi {a : zj} : Ws a = true ↔ Z8 (zm (zQ a)) = true ∧ ¬ (zk a = true ∧ zm (zQ a) = [48]) ∧ (zi (zQ a) = true → Z8 (zB (zQ a)) = true ∧ zB (zQ a) ≠ [48] ∧ zB (zQ a) ≠ [49]) := by
 unfold Ws
 rw [Bool.and_eq_true, Bool.and_eq_true, Bool.not_eq_true', Bool.and_eq_false_iff, Bool.or_eq_true, Bool.and_eq_true, Bool.and_eq_true, Bool.not_eq_true', Bool.not_eq_true', Bool.not_eq_true', beq_eq_false_iff_ne, beq_eq_false_iff_ne, beq_eq_false_iff_ne]
 constructor
 ·rintro ⟨⟨h1, h2⟩, h3⟩
  refine ⟨h1, fun h => ?_, fun h => ?_⟩
  ·rcases h2 with h2 | h2
   ·rw [h.1] at h2; cases h2
   ·exact h2 h.2
  ·rcases h3 with h3 | h3
   ·rw [h] at h3; cases h3
   ·exact ⟨h3.1.1, h3.1.2, h3.2⟩
 ·rintro ⟨h1, h2, h3⟩
  refine ⟨⟨h1, ?_⟩, ?_⟩
  ·cases hm : zk a with
   | false => exact .inl rfl
   | true => exact .inr fun e => h2 ⟨hm, e⟩
  ·cases hs : zi (zQ a) with
   | false => exact .inl rfl
   | true => have := h3 hs; exact .inr ⟨⟨this.1, this.2.1⟩, this.2.2⟩
theorem nY {s : zj} (h : Z8 s = true) : zD s = 0 ↔ s = [48] := ⟨fun e => Vb h e, fun e => by rw [e]; decide⟩
theorem Hq {s : zj} (h : Z8 s = true) : zD s = 1 ↔ s = [49] := ⟨fun e => by
 have := Ze h
 rw [e, z7 (by omega)] at this
 exact this.symm, fun e => by rw [e]; decide⟩
structure NF (a o : zj) : Prop where
 f0 : Z9 o = false → z8 a = false
 f1 : Z9 o = true → 0 ≤ ZV o ∧ ZV o ≤ 99999999
 f2 : Z9 o = true → zA o = [] → z8 a = !(zk a && ZV o == 0) ∧ ZV o = (zD (zm (zQ a)) : Int) ∧ zn a = 1
 f3 : Z9 o = true → zA o ≠ [] → (zA o).getD 0 0 ≠ 47 → z8 a = false
 f5 : Z9 o = true → (zk a && ZV o == 0) = true → z8 a = false
 f6 : Z9 o = true → zA o ≠ [] → (zA o).getD 0 0 = 47 → Z9 ((zA o).drop 1) = false → z8 a = false
 f7 : Z9 o = true → zA o ≠ [] → (zA o).getD 0 0 = 47 → Z9 ((zA o).drop 1) = true →
  (z8 a = true ↔ (zk a && ZV o == 0) = false ∧ zA ((zA o).drop 1) = [] ∧ 2 ≤ ZV ((zA o).drop 1) ∧ wc (ZV o) (ZV ((zA o).drop 1)) = 1) ∧ ZV o = (zD (zm (zQ a)) : Int) ∧ (z8 a = true → (zn a : Int) = ZV ((zA o).drop 1))
 fr : zK a = bif zk a then -(zD (zm (zQ a)) : Int) else (zD (zm (zQ a)) : Int)
theorem SB {a : zj} (h : z8 a = true) : Z9 (zQ a) = true ∧ ZV (zQ a) = (zD (zm (zQ a)) : Int) ∧ zA (zQ a) = (bif zi (zQ a) then 47 :: zB (zQ a) else []) := by
 obtain ⟨h1, h2, h3, h4⟩ := Xg.1 h
 obtain ⟨g1, g2, g3⟩ := xi.1 h1
 have ht : wJ (zQ a) = zm (zQ a) ∧ (zQ a).drop (zm (zQ a)).length = (bif zi (zQ a) then 47 :: zB (zQ a) else []) := by
  cases hs : zi (zQ a) with
  | false =>
   obtain ⟨c1, c2⟩ := XX hs
   rw [c1] at g1 ⊢
   exact ⟨S9 g1, by simp⟩
  | true =>
   have he := V1 hs
   have e1 : wJ (zQ a) = zm (zQ a) := by
    conv => lhs; rw [he]
    rw [ry (ZS.1 g1).2.1]
    show zm (zQ a) ++ [] = _
    rw [List.append_nil]
   refine ⟨e1, ?_⟩
   conv => lhs; arg 2; rw [he]
   rw [List.drop_left]
   rfl
 have ho : Z9 (zQ a) = true := X4.2 (by rw [ht.1]; exact ⟨g1, h2⟩)
 obtain ⟨n1, n2, _⟩ := XS ho
 rw [ht.1] at n1 n2
 exact ⟨ho, n1, by rw [n2, ht.2]⟩
theorem SG {a : zj} : zK a = (bif zk a then -(zD (zm (zQ a)) : Int) else (zD (zm (zQ a)) : Int)) ∧ zn a = (bif zi (zQ a) then zD (zB (zQ a)) else 1) := by
 obtain ⟨_, _, _, _, _, h6, h7⟩ := YE a
 exact ⟨h6, h7⟩
theorem nf (a : zj) : NF a (zQ a) := by
 obtain ⟨r1, r2⟩ := SG (a := a)
 have neg : Z9 (zQ a) = true → (zk a && ZV (zQ a) == 0) = true → z8 a = false := fun h hz => Bool.eq_false_iff.2 fun hb => by
  obtain ⟨_, n1, _⟩ := SB hb
  obtain ⟨h1, _⟩ := Xg.1 hb
  obtain ⟨g1, g2, _⟩ := xi.1 h1
  rw [Bool.and_eq_true, beq_iff_eq, n1] at hz
  exact g2 ⟨hz.1, (nY g1).1 (by omega)⟩
 have sm : Z9 (zQ a) = true → zA (zQ a) ≠ [] → (zA (zQ a)).getD 0 0 = 47 → zm (zQ a) = wJ (zQ a) ∧ zB (zQ a) = (zA (zQ a)).drop 1 ∧ zi (zQ a) = true := fun h h1 h2 => by
  obtain ⟨n1, n2, n3, _⟩ := XS h
  have e : zA (zQ a) = 47 :: (zA (zQ a)).drop 1 := by
   match zA (zQ a), h1, h2 with
   | c :: r, _, h2 => rw [show c = 47 from h2]; rfl
  rw [e] at n3
  have := tq (a := wJ (zQ a)) (b := (zA (zQ a)).drop 1) fun c hc => US (MZ _ c hc)
  rw [n3] at this
  exact this
 refine ⟨fun h => Bool.eq_false_iff.2 fun hb => ?_, fun h => (XS h).2.2.2, fun h h1 => ?_, fun h h1 h2 => Bool.eq_false_iff.2 fun hb => ?_, neg, fun h h1 h2 h3 => Bool.eq_false_iff.2 fun hb => ?_, fun h h1 h2 h3 => ?_, r1⟩
 ·rw [(SB hb).1] at h; cases h
 ·obtain ⟨b1, b2, b3⟩ := tV h h1
  obtain ⟨c1, c2, c3⟩ := Nc (s := zQ a) fun i hi e => by
   have := (ZS.1 b1).2.1 _ (wF (s := zQ a) (i := i) hi)
   rw [e] at this
   cases this
  rw [c2, r2, c1]
  refine ⟨?_, b3, rfl⟩
  rw [Bool.eq_iff_iff, Xg, xi, c1, c2, c3, Bool.not_eq_true', b3]
  constructor
  ·rintro ⟨⟨_, g2, _⟩, _⟩
   rw [Bool.and_eq_false_iff]
   cases hm : zk a with
   | false => exact .inl rfl
   | true => exact .inr (beq_eq_false_iff_ne.2 fun e => g2 ⟨hm, (nY b1).1 (by omega)⟩)
  ·intro g
   refine ⟨⟨b1, fun g2 => ?_, fun e => by cases e⟩, b2, by simp, fun e => by cases e⟩
   rw [g2.1, g2.2] at g
   cases g
 ·have := (SB hb).2.2
  rw [this] at h1 h2
  cases hs : zi (zQ a) with
  | false => rw [hs] at h1; exact h1 rfl
  | true => rw [hs] at h2; exact h2 rfl
 ·obtain ⟨c1, c2, c3⟩ := sm h h1 h2
  obtain ⟨k1, k2, k3, _⟩ := Xg.1 hb
  have d1 := (xi.1 k1).2.2 c3
  rw [c2] at d1 k3
  rw [(rA d1.1 k3).1] at h3
  cases h3
 ·obtain ⟨c1, c2, c3⟩ := sm h h1 h2
  obtain ⟨n1, _, _, _⟩ := XS h
  obtain ⟨o1, o2⟩ := X4.1 h
  rw [c1, r2, c3, c2]
  obtain ⟨m1, _, _, m4, m5⟩ := XS h3
  have hgO : wc (ZV (zQ a)) (ZV ((zA (zQ a)).drop 1)) = (Nat.gcd (ZV (zQ a)).toNat (ZV ((zA (zQ a)).drop 1)).toNat : Int) := by
   unfold wc
   rw [(Zx _ _).2 (XS h).2.2.2.1, (Zx _ _).2 m4]
   rfl
  have key : z8 a = true ↔ (zk a && ZV (zQ a) == 0) = false ∧ zA ((zA (zQ a)).drop 1) = [] ∧ 2 ≤ ZV ((zA (zQ a)).drop 1) ∧ wc (ZV (zQ a)) (ZV ((zA (zQ a)).drop 1)) = 1 := by
   rw [Xg, xi, c1, c2, c3, hgO]
   constructor
   ·rintro ⟨⟨_, g2, g3⟩, g4, g5, g6⟩
    obtain ⟨g7, g8, g9⟩ := g3 rfl
    obtain ⟨q1, q2, q3⟩ := rA g7 g5
    have z0 : zD ((zA (zQ a)).drop 1) ≠ 0 := fun e => g8 ((nY g7).1 e)
    have z1 : zD ((zA (zQ a)).drop 1) ≠ 1 := fun e => g9 ((Hq g7).1 e)
    refine ⟨?_, q3, by omega, ?_⟩
    ·rw [Bool.and_eq_false_iff]
     cases hm : zk a with
     | false => exact .inl rfl
     | true => exact .inr (beq_eq_false_iff_ne.2 fun e => g2 ⟨hm, (nY o1).1 (by omega)⟩)
    ·rw [n1, q2, Int.toNat_natCast, Int.toNat_natCast, g6 rfl]; rfl
   ·rintro ⟨g1, g2, g3, g4⟩
    obtain ⟨q1, q2, q3⟩ := tV h3 g2
    have z0 : zD ((zA (zQ a)).drop 1) ≠ 0 := by omega
    have z1 : zD ((zA (zQ a)).drop 1) ≠ 1 := by omega
    refine ⟨⟨o1, fun e => ?_, fun _ => ⟨q1, fun e => z0 ((nY q1).2 e), fun e => z1 ((Hq q1).2 e)⟩⟩, o2, q2, fun _ => ?_⟩
    ·rw [e.1, n1, (nY o1).2 e.2] at g1
     cases g1
    ·rw [n1, q3, Int.toNat_natCast, Int.toNat_natCast] at g4
     omega
  refine ⟨key, n1, fun hb => ?_⟩
  obtain ⟨_, g2, _⟩ := key.1 hb
  obtain ⟨q1, q2, q3⟩ := tV h3 g2
  rw [q3]
  rfl
noncomputable def Gh : Tb := (T0.plus 91 SS).plus 92 rY
theorem Ob : zz Tryz.prog Gh := zz.plus (zz.plus zq jz) MJ
def LH (a : zj) (x y : yQ) : yQ := .join Int (fun σ _ => [(0, σ.tm 0), (2, σ.tm 2), (4, σ.tm 4), (5, σ.tm 5), (8, σ.tm 8)]) (fun σ z => [(1, .box 91 2 (zw [σ.tm 5, .i z]))]) 0
 (fun σ z => z8 a = true ∧ z = (zn a : Int) ∧ AV.int (σ.tm 5) = (zD (zm (zQ a)) : Int)) x y
def LN (a : zj) : yQ := .two .auto (.two .auto (.two .auto (.two .auto (.split 7 .auto (.two .auto (LH a (.two .auto (.two (.two .auto (.two .auto (.split 7 .auto .auto))) .auto)) .auto))))))
def Vj : List AV → Option (List zN × AV)
 | [.str a] => some ([.p (a.length ≤ 9223372036854775807)], .tup 2 (zw [.agg 2 (zw [.i (bif z8 a then zK a else 0), .i (bif z8 a then (zn a : Int) else 0)]), .b (z8 a)]))
 | _ => none
theorem KJ (a : List UInt8) (hl : a.length ≤ 9223372036854775807) :
 let q1 := (!zr true !a == bA #[] || zr true !a == bA #[]); let q2 := (zG (lZ (List.drop 1 a)) (lZ a)); let q4 := (True ∧ 2 = 2 ∧ (kI ∧ iZ = bif z8 a then zK a else iZ) ∧ kI ∧ iZ = bif z8 a then (cI (zn a)) else iZ); let q3 := (j2 ∧ q4 ∧ false = z8 a); let q5 := (lZ (zA (List.drop 1 a))); let q7 := (bif !true then true else !zA (List.drop 1 (zA
 (List.drop 1 a))) == bA #[]); let q6 := (!zr false q7 || zr false q7); let q10 := (ZV (List.drop 1 (zA (List.drop 1 a)))); let q9 := (bif bif !true then true else !zA (List.drop 1 (zA (List.drop 1 a))) == bA #[] then true else zG q10 (2 : Int)); let q8 := (!zr false q9 || zr false q9); let q11 := (aI (ZV (List.drop 1 a))); let q12 := (kI ∧ ZV (List.drop 1 a) = ZV (List.drop 1 a)); let q13 := (91 = 91 ∧ 2 = 2 ∧ (kI ∧ iZ = iZ)
 ∧ kI ∧ iZ = iZ); let q14 := (bif bif !false then true else !zA (List.drop 1 (zA (List.drop 1 a))) == bA #[] then true else zG q10 (2 : Int)); let q15 := (zG (lZ a) (lZ a)); let q17 := (bif !true then true else !zA (List.drop 1 (zA a)) == bA #[]); let q16 := (!zr false q17 || zr false q17); let q19 := (bif bif !true then true else !zA (List.drop 1 (zA a)) == bA #[] then true else zG (ZV
 (List.drop 1 (zA a))) (2 : Int)); let q18 := (!zr false q19 || zr false q19); let q20 := (bif bif !false then true else !zA (List.drop 1 (zA a)) == bA #[] then true else zG (ZV (List.drop 1 (zA a))) (2 : Int)); Zy [AV.str a] → bF q1 (bF (!zr true !a == bA #[] || DB.db (iZ ≤ iZ ∧ iZ < (lZ a))) (bF q1 (bF (!!a == bA #[] || zr true !a == bA #[]) (zZ (bif
 !a == bA #[] then (cI (UInt8.toNat (gD a 0 (0 : UInt8)))) == (45 : Int) else false) (bF (DB.db (iZ ≤ iO ∧ iO ≤ (lZ a))) (lN (List.drop 1 a) ≤ nX ∧ zZ (Z9 (List.drop 1 a)) (bF (!(zr false !true && zr true q2) || zr false !true && zr true q2) (bF (!zr false !true || (!zG (lZ (List.drop 1 a)) (lZ a) || zr false !true && zr true q2)) (zZ (bif !true then true else bif zG (lZ (List.drop 1 a))
 (lZ a) then ZV (List.drop 1 a) == iZ else false) q3 (zZ (!zA (List.drop 1 a) == bA #[]) (bF (DB.db (iZ ≤ iZ ∧ iZ < q5)) (zZ ((cI (UInt8.toNat (gD (zA (List.drop 1 a)) 0 (0 : UInt8)))) != (47 : Int)) q3 (bF (DB.db (iZ ≤ iO ∧ iO ≤ q5)) (lN (List.drop 1 (zA (List.drop 1 a))) ≤ nX ∧ zZ (Z9 (List.drop 1 (zA (List.drop 1 a)))) (bF q6 (bF q6 (bF ((!!bif !true then true else !zA (List.drop 1 (zA (List.drop 1
 a))) == bA #[]) || zr false q7) (bF q8 (bF q8 (bF q8 ((zr false q9 = true → iZ ≤ ZV (List.drop 1 a) ∧ ZV (List.drop 1 a) ≤ iX) ∧ (zr false q9 = true → iZ ≤ ZV (List.drop 1 (zA (List.drop 1 a))) ∧ ZV (List.drop 1 (zA (List.drop 1 a))) ≤ iX) ∧ bF q8 (bF ((!!bif bif !true then true else !zA (List.drop 1 (zA (List.drop 1 a))) == bA #[] then true else zG q10 (2 : Int)) || zr false q9) (zZ (bif bif bif
 !true then true else !zA (List.drop 1 (zA (List.drop 1 a))) == bA #[] then true else zG q10 (2 : Int) then true else wc (ZV (List.drop 1 a)) q10 != iO) q3 (∃ (z : Int), ((z8 a = true ∧ z = (cI (zn a)) ∧ AV.int q11 = (cI (zD (zm (zQ a))))) ∧ a = a ∧ (nat_lit 0 = 0 ∧ 0 = 0) ∧ List.drop 1 a = List.drop 1 a ∧ q12 ∧ nat_lit 1 = 1 ∧ 0 = 0) ∧ q13 ∧ (91 : TypeId) = 91 ∧ 2 = 2 ∧ q12 ∧ kI ∧ ZV (List.drop 1 (zA (List.drop 1 a))) = z)))))))))) ((zr false q14 =
 true → iZ ≤ ZV (List.drop 1 a) ∧ ZV (List.drop 1 a) ≤ iX) ∧ (zr false q14 = true → iZ ≤ ZV (List.drop 1 (zA (List.drop 1 a))) ∧ ZV (List.drop 1 (zA (List.drop 1 a))) ≤ iX) ∧ j2 ∧ q4 ∧ false = z8 a))))) (∃ (z : Int), ((z8 a = true ∧ z = (cI (zn a)) ∧ AV.int q11 = (cI (zD (zm (zQ a))))) ∧ a = a ∧ (nat_lit 0 = 0 ∧ 0 = 0) ∧ List.drop 1 a = List.drop 1 a ∧ q12 ∧ nat_lit 1 = 1 ∧ 0 = 0) ∧ q13 ∧ (91 : TypeId) = 91 ∧ 2 = 2 ∧ q12 ∧ kI ∧ iO =
 z) ∧ ∀ (z : Int), z8 a = true ∧ z = (cI (zn a)) ∧ AV.int q11 = (cI (zD (zm (zQ a)))) → zZ q2 (bF (dK (-ZV (List.drop 1 a))) (j2 ∧ (True ∧ 2 = 2 ∧ (kI ∧ -ZV (List.drop 1 a) = bif z8 a then zK a else iZ) ∧ kI ∧ z = bif z8 a then (cI (zn a)) else iZ) ∧ true = z8 a)) (j2 ∧ (True ∧ 2 = 2 ∧ (kI ∧ ZV (List.drop 1 a) = bif z8 a then zK a else iZ) ∧ kI ∧ z = bif z8 a then (↑(zn a) :
 Int) else iZ) ∧ true = z8 a))))) q3)) (lN a ≤ nX ∧ zZ (Z9 a) (bF (!(zr false !true && zr true q15) || zr false !true && zr true q15) (bF (!zr false !true || (!zG (lZ a) (lZ a) || zr false !true && zr true q15)) (zZ (bif !true then true else bif zG (lZ a) (lZ a) then ZV a == iZ else false) q3 (zZ (!zA a == bA #[]) (bF (DB.db (iZ ≤ iZ ∧ iZ < (cI (List.length
 (zA a))))) (zZ ((cI (UInt8.toNat (gD (zA a) 0 (0 : UInt8)))) != (47 : Int)) q3 (bF (DB.db (iZ ≤ iO ∧ iO ≤ (lZ (zA a)))) (lN (List.drop 1 (zA a)) ≤ nX ∧ zZ (Z9 (List.drop 1 (zA a))) (bF q16 (bF q16 (bF ((!!bif !true then true else !zA (List.drop 1 (zA a)) == bA #[]) || zr false q17) (bF q18 (bF q18 (bF q18 ((zr false q19 = true → iZ ≤ ZV a ∧ ZV a ≤ iX) ∧ (zr false q19 = true → (0
 : Int) ≤ ZV (List.drop 1 (zA a)) ∧ ZV (List.drop 1 (zA a)) ≤ iX) ∧ bF q18 (bF ((!!bif bif !true then true else !zA (List.drop 1 (zA a)) == bA #[] then true else zG (ZV (List.drop 1 (zA a))) (2 : Int)) || zr false q19) (zZ (bif bif bif !true then true else !zA (List.drop 1 (zA a)) == bA #[] then true else zG (ZV (List.drop 1 (zA a))) (2 : Int) then true else wc (ZV a) (ZV (List.drop 1 (zA a))) != iO) q3 (∃ (z : Int), ((z8 a = true ∧
 z = (cI (zn a)) ∧ AV.int (aI (ZV a)) = (cI (zD (zm (zQ a))))) ∧ a = a ∧ (nat_lit 0 = 0 ∧ 0 = 0) ∧ a = a ∧ (kI ∧ ZV a = ZV a) ∧ nat_lit 1 = 1 ∧ 0 = 0) ∧ q13 ∧ (91 : TypeId) = 91 ∧ 2 = 2 ∧ (kI ∧ ZV a = ZV a) ∧ kI ∧ ZV (List.drop 1 (zA a)) = z)))))))))) ((zr false q20 = true → iZ ≤ ZV a ∧ ZV a ≤ iX) ∧ (zr false q20 = true → iZ ≤ ZV (List.drop 1 (zA a)) ∧ ZV (List.drop 1 (zA a)) ≤ (9223372036854775807
 : Int)) ∧ j2 ∧ q4 ∧ false = z8 a))))) (∃ (z : Int), ((z8 a = true ∧ z = (cI (zn a)) ∧ AV.int (aI (ZV a)) = (cI (zD (zm (zQ a))))) ∧ a = a ∧ (nat_lit 0 = 0 ∧ 0 = 0) ∧ a = a ∧ (kI ∧ ZV a = ZV a) ∧ nat_lit 1 = 1 ∧ 0 = 0) ∧ q13 ∧ (91 : TypeId) = 91 ∧ 2 = 2 ∧ (kI ∧ ZV a = ZV a) ∧ kI ∧ iO = z) ∧ ∀ (z : Int), z8 a = true ∧ z = (cI (zn a)) ∧ AV.int (aI (ZV a)) = (cI (zD (zm (zQ a)))) → zZ q15 (bF (DB.db (yD
 .i64 (-ZV a))) (j2 ∧ (True ∧ 2 = 2 ∧ (kI ∧ -ZV a = bif z8 a then zK a else iZ) ∧ kI ∧ z = bif z8 a then (cI (zn a)) else iZ) ∧ true = z8 a)) (j2 ∧ (True ∧ 2 = 2 ∧ (kI ∧ ZV a = bif z8 a then zK a else iZ) ∧ kI ∧ z = bif z8 a then (cI (zn a)) else iZ) ∧ true = z8 a))))) q3))))) := by
 delta bF dK bA nX cI kI j2 lZ lN gD iZ iO iX aI
 dsimp only
 intro hb
 simp only [sS, dS, xt]
 have em : (!(a == []) && ((a.getD 0 0).toNat : Int) == 45) = zk a := by
  rw [show (((a.getD 0 0).toNat : Int) == 45) = (a.getD 0 0 == 45) from vO (a.getD 0 0) 45 (by decide)]
  unfold zk
  match a with
  | [] => rfl
  | c :: r => simp
 have e47 : ∀ c : UInt8, ((c.toNat : Int) = 47) ↔ c = 47 := fun c => by
  have := vO c 47 (by decide)
  rw [Bool.eq_iff_iff, beq_iff_eq, beq_iff_eq] at this
  exact this
 have bad : z8 a = false → 2 = [AV.junk, AV.junk].length ∧ ((0 = bif z8 a then zK a else 0) ∧ 0 = bif z8 a then (zn a : Int) else 0) ∧ false = z8 a := fun h => by rw [h]; exact ⟨rfl, ⟨rfl, rfl⟩, rfl⟩
 have rb : ∀ s : zj, Z9 s = true → 0 ≤ ZV s ∧ ZV s ≤ 9223372036854775807 := fun s h => by have := (XS h).2.2.2; omega
 have F := nf a
 rw [em]
 simp only [e47, ne_eq]
 have hpos : (!(a == [])) = true → 0 < a.length := fun h => by
  match a, h with
  | c :: r, _ => simp
 refine ⟨fun h => ⟨Int.le_refl _, by have := hpos h; omega⟩, zX.2 ⟨fun c => ?_, fun c => ?_⟩⟩
 ·have hown : zQ a = a.drop 1 := by unfold zQ; rw [c]; rfl
  have hl1 := (pK c).2
  have hlt : zG ((a.drop 1).length : Int) (a.length : Int) = zk a := by rw [c, zp, List.length_drop]; omega
  rw [hown] at F
  refine ⟨⟨by omega, by omega⟩, by rw [List.length_drop]; omega, ?_⟩
  generalize ho : a.drop 1 = o at *
  have hlo : o.length ≤ a.length := by rw [← ho, List.length_drop]; omega
  have hgt : (o.length : Int) < (a.length : Int) ↔ zk a = true := by rw [← hlt, zp]
  rw [hlt]
  refine zX.2 ⟨fun k => ?_, fun k => bad (F.f0 k)⟩
  refine te (by cases zk a <;> rfl) ?_
  have hb1 := rb _ k
  refine zX.2 ⟨fun k2 => bad (F.f5 k (by simpa using k2)), fun k2 => ⟨zX.2 ⟨fun k3 => ?_, fun k3 => ?_⟩, fun z hz => ?_⟩⟩
  ·have k4 : zA o ≠ [] := by simpa using k3
   have k5 : 0 < (zA o).length := Nat.pos_of_ne_zero fun e => k4 (List.eq_nil_of_length_eq_zero e)
   have k6 : (zA o).length ≤ o.length := by
    obtain ⟨_, _, h3, _⟩ := XS k
    have := congrArg List.length h3
    rw [List.length_append] at this
    omega
   refine ⟨⟨by omega, by omega⟩, fun hne => bad (F.f3 k k4 hne), fun he => ⟨⟨by omega, by omega⟩, by rw [List.length_drop]; omega, zX.2 ⟨fun k7 => ?_, fun k7 => ?_⟩⟩⟩
   ·obtain ⟨i1, i2, i3⟩ := F.f7 k k4 he k7
    refine ⟨fun _ => hb1, fun _ => rb _ k7, zX.2 ⟨fun k8 => bad (Bool.eq_false_iff.2 fun hb => ?_), fun k8 => ?_⟩⟩
    ·obtain ⟨j1, j2, j3, j4⟩ := i1.1 hb
     rw [j2, j4, show zG (ZV ((zA o).drop 1)) 2 = false from Bool.eq_false_iff.2 fun e => by have := (zp _ _).1 e; omega] at k8
     cases k8
    ·have hb : z8 a = true := i1.2 (by
      rw [Bool.or_eq_false_iff, Bool.or_eq_false_iff] at k8
      obtain ⟨⟨q1, q2⟩, q3⟩ := k8
      refine ⟨by simpa using k2, by simpa using q1, ?_, by simpa using q3⟩
      refine Decidable.byContradiction fun hn => ?_
      rw [(zp _ _).2 (by omega)] at q2
      cases q2)
     exact ⟨_, ⟨hb, (i3 hb).symm, i2⟩, rfl⟩
   ·exact ⟨fun h => by simp at h, fun h => by simp at h, bad (F.f6 k k4 he k7)⟩
  ·have k4 : zA o = [] := by simpa using k3
   obtain ⟨i1, i2, i3⟩ := F.f2 k k4
   have k2' : (zk a && ZV o == 0) = false := k2
   have hb : z8 a = true := by rw [i1, k2']; rfl
   exact ⟨1, ⟨hb, by rw [i3]; rfl, i2⟩, rfl⟩
  ·obtain ⟨z1, z2, z3⟩ := hz
   have fr := F.fr
   rw [← z3] at fr
   refine ⟨fun hh => ⟨⟨by omega, by omega⟩, rfl, ⟨?_, ?_⟩, z1.symm⟩, fun hh => ⟨rfl, ⟨?_, ?_⟩, z1.symm⟩⟩
   ·rw [z1, fr, hgt.1 hh]; rfl
   ·rw [z1]; exact z2
   ·have : zk a = false := Bool.eq_false_iff.2 fun e => by have := hgt.2 e; omega
    rw [z1, fr, this]; rfl
   ·rw [z1]; exact z2
 ·have hown : zQ a = a := by unfold zQ; rw [c]; rfl
  have hlt : zG (a.length : Int) (a.length : Int) = zk a := by rw [c, Bool.eq_false_iff, Ne, zp]; omega
  rw [hown] at F
  have hlo : a.length ≤ a.length := Nat.le_refl _
  have hgt : (a.length : Int) < (a.length : Int) ↔ zk a = true := by rw [← hlt, zp]
  refine ⟨by omega, ?_⟩
  rw [hlt]
  refine zX.2 ⟨fun k => ?_, fun k => bad (F.f0 k)⟩
  refine te (by cases zk a <;> rfl) ?_
  have hb1 := rb _ k
  refine zX.2 ⟨fun k2 => bad (F.f5 k (by simpa using k2)), fun k2 => ⟨zX.2 ⟨fun k3 => ?_, fun k3 => ?_⟩, fun z hz => ?_⟩⟩
  ·have k4 : zA a ≠ [] := by simpa using k3
   have k5 : 0 < (zA a).length := Nat.pos_of_ne_zero fun e => k4 (List.eq_nil_of_length_eq_zero e)
   have k6 : (zA a).length ≤ a.length := by
    obtain ⟨_, _, h3, _⟩ := XS k
    have := congrArg List.length h3
    rw [List.length_append] at this
    omega
   refine ⟨⟨by omega, by omega⟩, fun hne => bad (F.f3 k k4 hne), fun he => ⟨⟨by omega, by omega⟩, by rw [List.length_drop]; omega, zX.2 ⟨fun k7 => ?_, fun k7 => ?_⟩⟩⟩
   ·obtain ⟨i1, i2, i3⟩ := F.f7 k k4 he k7
    refine ⟨fun _ => hb1, fun _ => rb _ k7, zX.2 ⟨fun k8 => bad (Bool.eq_false_iff.2 fun hb => ?_), fun k8 => ?_⟩⟩
    ·obtain ⟨j1, j2, j3, j4⟩ := i1.1 hb
     rw [j2, j4, show zG (ZV ((zA a).drop 1)) 2 = false from Bool.eq_false_iff.2 fun e => by have := (zp _ _).1 e; omega] at k8
     cases k8
    ·have hb : z8 a = true := i1.2 (by
      rw [Bool.or_eq_false_iff, Bool.or_eq_false_iff] at k8
      obtain ⟨⟨q1, q2⟩, q3⟩ := k8
      refine ⟨by simpa using k2, by simpa using q1, ?_, by simpa using q3⟩
      refine Decidable.byContradiction fun hn => ?_
      rw [(zp _ _).2 (by omega)] at q2
      cases q2)
     exact ⟨_, ⟨hb, (i3 hb).symm, i2⟩, rfl⟩
   ·exact ⟨fun h => by simp at h, fun h => by simp at h, bad (F.f6 k k4 he k7)⟩
  ·have k4 : zA a = [] := by simpa using k3
   obtain ⟨i1, i2, i3⟩ := F.f2 k k4
   have k2' : (zk a && ZV a == 0) = false := k2
   have hb : z8 a = true := by rw [i1, k2']; rfl
   exact ⟨1, ⟨hb, by rw [i3]; rfl, i2⟩, rfl⟩
  ·obtain ⟨z1, z2, z3⟩ := hz
   have fr := F.fr
   rw [← z3] at fr
   refine ⟨fun hh => ⟨⟨by omega, by omega⟩, rfl, ⟨?_, ?_⟩, z1.symm⟩, fun hh => ⟨rfl, ⟨?_, ?_⟩, z1.symm⟩⟩
   ·rw [z1, fr, hgt.1 hh]; rfl
   ·rw [z1]; exact z2
   ·have : zk a = false := Bool.eq_false_iff.2 fun e => by have := hgt.2 e; omega
    rw [z1, fr, this]; rfl
   ·rw [z1]; exact z2
theorem N4 (a : List UInt8) (hl : a.length ≤ 9223372036854775807) : zu Tryz.prog [] 55 [.str a] (.tup 2 (zw [.agg 2 (zw [.i (bif z8 a then zK a else 0), .i (bif z8 a then (zn a : Int) else 0)]), .b (z8 a)])) :=
 zv (T := Gh) (an := LN a) mixed Ob (Eq.mp (by kernel_rfl) (KJ a hl))
theorem rR : zP Tryz.prog [] 55 Vj := by
 intro xs ps r h hp
 unfold Vj at h
 split at h
 ·skip
  rename_i a
  cases h
  obtain ⟨q0, -⟩ := Zo hp
  exact weaken (ys := [.str a]) ⟨zV _, trivial⟩ (N4 a q0)
 ·cases h
end Go.Te
