/- rational: nativeOf. -/
import Derived.Test.YthbpnknhfokadaaGreatDoorThS
set_option linter.unusedSimpArgs false
set_option linter.unusedVariables false
namespace Go.Te
open Go Go.Sx Go.Proofs Go.Ar
set_option maxRecDepth 100000
set_option maxHeartbeats 4000000
def z7 (a : zj) : Bool := zH a == 0 && leB ((zm (zQ a)).length : Int) 8 && leB ((zB (zQ a)).length : Int) 8
theorem tR (s : zj) : wm s ++ s.drop (wm s).length = s := by
 have h : s = s.takeWhile ZC ++ s.dropWhile ZC := (List.takeWhile_append_dropWhile).symm
 have gen : ∀ t u : zj, t ++ u = s → s.drop t.length = u := by
  rintro t u rfl
  exact List.drop_left
 have h2 : s.drop (wm s).length = s.dropWhile ZC := gen _ _ h.symm
 rw [h2]
 exact h.symm
theorem mU (s : zj) : ∀ c ∈ wm s, ZC c = true := fun c hc => List.all_eq_true.1 (List.all_takeWhile (l := s) (p := ZC)) c hc
theorem Xd {s : zj} : yZ s = true ↔ Z8 (wm s) = true ∧ (wm s).length ≤ 8 := by
 unfold yZ
 rw [Bool.and_eq_true, Zx]
 exact ⟨fun h => ⟨h.1, by omega⟩, fun h => ⟨h.1, by omega⟩⟩
theorem XQ {s : zj} (h : yZ s = true) : ZV s = (zD (wm s) : Int) ∧ za s = s.drop (wm s).length ∧ wm s ++ za s = s ∧ 0 ≤ ZV s ∧ ZV s ≤ 99999999 := by
 have e1 : ZV s = (zD (wm s) : Int) := by unfold ZV; rw [h]; rfl
 have e2 : za s = s.drop (wm s).length := by unfold za; rw [h]; rfl
 obtain ⟨h1, h2⟩ := Xd.1 h
 have b := vU h1 (k := 8) h2
 rw [show 10 ^ 8 = 100000000 from by decide] at b
 exact ⟨e1, e2, by rw [e2]; exact tR s, by omega, by omega⟩
theorem ru {s : zj} (h : Z8 s = true) : wm s = s := by
 have := Sk (a := s) (b := []) (Zt.1 h).2.1
 rw [List.append_nil] at this
 rw [this]
 show s ++ [] = s
 simp
theorem Ry {s : zj} (h : Z8 s = true) (hl : s.length ≤ 8) : yZ s = true ∧ ZV s = (zD s : Int) ∧ za s = [] := by
 have ht := ru h
 have ho : yZ s = true := Xd.2 (by rw [ht]; exact ⟨h, hl⟩)
 obtain ⟨n1, n2, _⟩ := XQ ho
 rw [ht] at n1 n2
 exact ⟨ho, n1, by rw [n2]; simp⟩
theorem tq {s : zj} (h : yZ s = true) (hr : za s = []) : Z8 s = true ∧ s.length ≤ 8 ∧ ZV s = (zD s : Int) := by
 obtain ⟨n1, n2, n3, _⟩ := XQ h
 rw [hr, List.append_nil] at n3
 obtain ⟨h1, h2⟩ := Xd.1 h
 rw [n3] at h1 h2 n1
 exact ⟨h1, h2, n1⟩
theorem X0 {a : zj} : z7 a = true ↔ Ww a = true ∧ (zm (zQ a)).length ≤ 8 ∧ (zB (zQ a)).length ≤ 8 ∧ (zi (zQ a) = true → Nat.gcd (zD (zm (zQ a))) (zD (zB (zQ a))) = 1) := by
 unfold z7
 rw [Bool.and_eq_true, Bool.and_eq_true, Zx, Zx, beq_iff_eq]
 constructor
 ·rintro ⟨⟨h1, h2⟩, h3⟩
  cases hf : Ww a with
  | false => rw [RF hf] at h1; cases h1
  | true =>
   refine ⟨rfl, by omega, by omega, fun hs => ?_⟩
   rw [UD hf ⟨by omega, by omega⟩ hs] at h1
   cases hg : Nat.beq (Nat.gcd (zD (zm (zQ a))) (zD (zB (zQ a)))) 1 with
   | true => exact Nat.eq_of_beq_eq_true hg
   | false => rw [hg] at h1; cases h1
 ·rintro ⟨h1, h2, h3, h4⟩
  refine ⟨⟨?_, by omega⟩, by omega⟩
  cases hs : zi (zQ a) with
  | false => exact qq h1 (by omega) hs
  | true =>
   rw [UD h1 ⟨by omega, by omega⟩ hs, h4 hs]
   rfl
theorem xK {a : zj} : Ww a = true ↔ Z8 (zm (zQ a)) = true ∧ ¬ (zk a = true ∧ zm (zQ a) = [48]) ∧ (zi (zQ a) = true → Z8 (zB (zQ a)) = true ∧ zB (zQ a) ≠ [48] ∧ zB (zQ a) ≠ [49]) := by
 unfold Ww
 rw [Bool.and_eq_true, Bool.and_eq_true, Bool.not_eq_true', Bool.and_eq_false_iff, Bool.or_eq_true, Bool.and_eq_true, Bool.and_eq_true, Bool.not_eq_true', Bool.not_eq_true', Bool.not_eq_true', beq_eq_false_iff_ne, beq_eq_false_iff_ne, beq_eq_false_iff_ne]
 constructor
 ·rintro ⟨⟨h1, h2⟩, h3⟩
  refine ⟨h1, fun h => ?_, fun h => ?_⟩
  ·rcases h2 with h2 | h2
   ·rw [h.1] at h2; cases h2
   ·exact h2 h.2
  ·rcases h3 with h3 | h3
   ·rw [h] at h3; cases h3
   ·exact ⟨h3.1.1, h3.1.2, h3.2⟩
 ·rintro ⟨h1, h2, h3⟩
  refine ⟨⟨h1, ?_⟩, ?_⟩
  ·cases hm : zk a with
   | false => exact .inl rfl
   | true => exact .inr fun e => h2 ⟨hm, e⟩
  ·cases hs : zi (zQ a) with
   | false => exact .inl rfl
   | true => have := h3 hs; exact .inr ⟨⟨this.1, this.2.1⟩, this.2.2⟩
theorem oh {s : zj} (h : Z8 s = true) : zD s = 0 ↔ s = [48] := ⟨fun e => Ve h e, fun e => by rw [e]; decide⟩
theorem Hp {s : zj} (h : Z8 s = true) : zD s = 1 ↔ s = [49] := ⟨fun e => by
 have := Ze h
 rw [e, z6 (by omega)] at this
 exact this.symm, fun e => by rw [e]; decide⟩
structure NF (a o : zj) : Prop where
 f0 : yZ o = false → z7 a = false
 f1 : yZ o = true → 0 ≤ ZV o ∧ ZV o ≤ 99999999
 f2 : yZ o = true → za o = [] → z7 a = !(zk a && ZV o == 0) ∧ ZV o = (zD (zm (zQ a)) : Int) ∧ zn a = 1
 f3 : yZ o = true → za o ≠ [] → (za o).getD 0 0 ≠ 47 → z7 a = false
 f5 : yZ o = true → (zk a && ZV o == 0) = true → z7 a = false
 f6 : yZ o = true → za o ≠ [] → (za o).getD 0 0 = 47 → yZ ((za o).drop 1) = false → z7 a = false
 f7 : yZ o = true → za o ≠ [] → (za o).getD 0 0 = 47 → yZ ((za o).drop 1) = true →
  (z7 a = true ↔ (zk a && ZV o == 0) = false ∧ za ((za o).drop 1) = [] ∧ 2 ≤ ZV ((za o).drop 1) ∧ wg (ZV o) (ZV ((za o).drop 1)) = 1) ∧ ZV o = (zD (zm (zQ a)) : Int) ∧ (z7 a = true → (zn a : Int) = ZV ((za o).drop 1))
 fr : zK a = bif zk a then -(zD (zm (zQ a)) : Int) else (zD (zm (zQ a)) : Int)
theorem SF {a : zj} (h : z7 a = true) : yZ (zQ a) = true ∧ ZV (zQ a) = (zD (zm (zQ a)) : Int) ∧ za (zQ a) = (bif zi (zQ a) then 47 :: zB (zQ a) else []) := by
 obtain ⟨h1, h2, h3, h4⟩ := X0.1 h
 obtain ⟨g1, g2, g3⟩ := xK.1 h1
 have ht : wm (zQ a) = zm (zQ a) ∧ (zQ a).drop (zm (zQ a)).length = (bif zi (zQ a) then 47 :: zB (zQ a) else []) := by
  cases hs : zi (zQ a) with
  | false =>
   obtain ⟨c1, c2⟩ := Xu hs
   rw [c1] at g1 ⊢
   exact ⟨ru g1, by simp⟩
  | true =>
   have he := V6 hs
   have e1 : wm (zQ a) = zm (zQ a) := by
    conv => lhs; rw [he]
    rw [Sk (Zt.1 g1).2.1]
    show zm (zQ a) ++ [] = _
    rw [List.append_nil]
   refine ⟨e1, ?_⟩
   conv => lhs; arg 2; rw [he]
   rw [List.drop_left]
   rfl
 have ho : yZ (zQ a) = true := Xd.2 (by rw [ht.1]; exact ⟨g1, h2⟩)
 obtain ⟨n1, n2, _⟩ := XQ ho
 rw [ht.1] at n1 n2
 exact ⟨ho, n1, by rw [n2, ht.2]⟩
theorem SS {a : zj} : zK a = (bif zk a then -(zD (zm (zQ a)) : Int) else (zD (zm (zQ a)) : Int)) ∧ zn a = (bif zi (zQ a) then zD (zB (zQ a)) else 1) := by
 obtain ⟨_, _, _, _, _, h6, h7⟩ := YE a
 exact ⟨h6, h7⟩
theorem nf (a : zj) : NF a (zQ a) := by
 obtain ⟨r1, r2⟩ := SS (a := a)
 have neg : yZ (zQ a) = true → (zk a && ZV (zQ a) == 0) = true → z7 a = false := fun h hz => Bool.eq_false_iff.2 fun hb => by
  obtain ⟨_, n1, _⟩ := SF hb
  obtain ⟨h1, _⟩ := X0.1 hb
  obtain ⟨g1, g2, _⟩ := xK.1 h1
  rw [Bool.and_eq_true, beq_iff_eq, n1] at hz
  exact g2 ⟨hz.1, (oh g1).1 (by omega)⟩
 have sm : yZ (zQ a) = true → za (zQ a) ≠ [] → (za (zQ a)).getD 0 0 = 47 → zm (zQ a) = wm (zQ a) ∧ zB (zQ a) = (za (zQ a)).drop 1 ∧ zi (zQ a) = true := fun h h1 h2 => by
  obtain ⟨n1, n2, n3, _⟩ := XQ h
  have e : za (zQ a) = 47 :: (za (zQ a)).drop 1 := by
   match za (zQ a), h1, h2 with
   | c :: r, _, h2 => rw [show c = 47 from h2]; rfl
  rw [e] at n3
  have := Uw (a := wm (zQ a)) (b := (za (zQ a)).drop 1) fun c hc => Up (mU _ c hc)
  rw [n3] at this
  exact this
 refine ⟨fun h => Bool.eq_false_iff.2 fun hb => ?_, fun h => (XQ h).2.2.2, fun h h1 => ?_, fun h h1 h2 => Bool.eq_false_iff.2 fun hb => ?_, neg, fun h h1 h2 h3 => Bool.eq_false_iff.2 fun hb => ?_, fun h h1 h2 h3 => ?_, r1⟩
 ·rw [(SF hb).1] at h; cases h
 ·obtain ⟨b1, b2, b3⟩ := tq h h1
  obtain ⟨c1, c2, c3⟩ := Ny (s := zQ a) fun i hi e => by
   have := (Zt.1 b1).2.1 _ (WT (s := zQ a) (i := i) hi)
   rw [e] at this
   cases this
  rw [c2, r2, c1]
  refine ⟨?_, b3, rfl⟩
  rw [Bool.eq_iff_iff, X0, xK, c1, c2, c3, Bool.not_eq_true', b3]
  constructor
  ·rintro ⟨⟨_, g2, _⟩, _⟩
   rw [Bool.and_eq_false_iff]
   cases hm : zk a with
   | false => exact .inl rfl
   | true => exact .inr (beq_eq_false_iff_ne.2 fun e => g2 ⟨hm, (oh b1).1 (by omega)⟩)
  ·intro g
   refine ⟨⟨b1, fun g2 => ?_, fun e => by cases e⟩, b2, by simp, fun e => by cases e⟩
   rw [g2.1, g2.2] at g
   cases g
 ·have := (SF hb).2.2
  rw [this] at h1 h2
  cases hs : zi (zQ a) with
  | false => rw [hs] at h1; exact h1 rfl
  | true => rw [hs] at h2; exact h2 rfl
 ·obtain ⟨c1, c2, c3⟩ := sm h h1 h2
  obtain ⟨k1, k2, k3, _⟩ := X0.1 hb
  have d1 := (xK.1 k1).2.2 c3
  rw [c2] at d1 k3
  rw [(Ry d1.1 k3).1] at h3
  cases h3
 ·obtain ⟨c1, c2, c3⟩ := sm h h1 h2
  obtain ⟨n1, _, _, _⟩ := XQ h
  obtain ⟨o1, o2⟩ := Xd.1 h
  rw [c1, r2, c3, c2]
  obtain ⟨m1, _, _, m4, m5⟩ := XQ h3
  have hgO : wg (ZV (zQ a)) (ZV ((za (zQ a)).drop 1)) = (Nat.gcd (ZV (zQ a)).toNat (ZV ((za (zQ a)).drop 1)).toNat : Int) := by
   unfold wg
   rw [(Zx _ _).2 (XQ h).2.2.2.1, (Zx _ _).2 m4]
   rfl
  have key : z7 a = true ↔ (zk a && ZV (zQ a) == 0) = false ∧ za ((za (zQ a)).drop 1) = [] ∧ 2 ≤ ZV ((za (zQ a)).drop 1) ∧ wg (ZV (zQ a)) (ZV ((za (zQ a)).drop 1)) = 1 := by
   rw [X0, xK, c1, c2, c3, hgO]
   constructor
   ·rintro ⟨⟨_, g2, g3⟩, g4, g5, g6⟩
    obtain ⟨g7, g8, g9⟩ := g3 rfl
    obtain ⟨q1, q2, q3⟩ := Ry g7 g5
    have z0 : zD ((za (zQ a)).drop 1) ≠ 0 := fun e => g8 ((oh g7).1 e)
    have z1 : zD ((za (zQ a)).drop 1) ≠ 1 := fun e => g9 ((Hp g7).1 e)
    refine ⟨?_, q3, by omega, ?_⟩
    ·rw [Bool.and_eq_false_iff]
     cases hm : zk a with
     | false => exact .inl rfl
     | true => exact .inr (beq_eq_false_iff_ne.2 fun e => g2 ⟨hm, (oh o1).1 (by omega)⟩)
    ·rw [n1, q2, Int.toNat_natCast, Int.toNat_natCast, g6 rfl]; rfl
   ·rintro ⟨g1, g2, g3, g4⟩
    obtain ⟨q1, q2, q3⟩ := tq h3 g2
    have z0 : zD ((za (zQ a)).drop 1) ≠ 0 := by omega
    have z1 : zD ((za (zQ a)).drop 1) ≠ 1 := by omega
    refine ⟨⟨o1, fun e => ?_, fun _ => ⟨q1, fun e => z0 ((oh q1).2 e), fun e => z1 ((Hp q1).2 e)⟩⟩, o2, q2, fun _ => ?_⟩
    ·rw [e.1, n1, (oh o1).2 e.2] at g1
     cases g1
    ·rw [n1, q3, Int.toNat_natCast, Int.toNat_natCast] at g4
     omega
  refine ⟨key, n1, fun hb => ?_⟩
  obtain ⟨_, g2, _⟩ := key.1 hb
  obtain ⟨q1, q2, q3⟩ := tq h3 g2
  rw [q3]
  rfl
noncomputable def Gp : Tb := (T0.plus 91 rT).plus 92 SJ
theorem Oa : zz Tryz.prog Gp := zz.plus (zz.plus zq Kg) M7
def kf (a : zj) (x y : yQ) : yQ := .join Int (fun σ _ => [(0, σ.tm 0), (2, σ.tm 2), (4, σ.tm 4), (5, σ.tm 5), (8, σ.tm 8)]) (fun σ z => [(1, .box 91 2 (zw [σ.tm 5, .i z]))]) 0
 (fun σ z => z7 a = true ∧ z = (zn a : Int) ∧ AV.int (σ.tm 5) = (zD (zm (zQ a)) : Int)) x y
def l5 (a : zj) : yQ := .two .auto (.two .auto (.two .auto (.two .auto (.split 7 .auto (.two .auto (kf a (.two .auto (.two (.two .auto (.two .auto (.split 7 .auto .auto))) .auto)) .auto))))))
def Vn : List AV → Option (List zN × AV)
 | [.str a] => some ([.p (a.length ≤ 9223372036854775807)], .tup 2 (zw [.agg 2 (zw [.i (bif z7 a then zK a else 0), .i (bif z7 a then (zn a : Int) else 0)]), .b (z7 a)]))
 | _ => none
theorem K9 (a : List UInt8) (hl : a.length ≤ 9223372036854775807) :
 let q1 := (!zR true !a == bA #[] || zR true !a == bA #[]); let q2 := (zG (lZ (List.drop 1 a)) (lZ a)); let q4 := (True ∧ 2 = 2 ∧ (kI ∧ iZ = bif z7 a then zK a else iZ) ∧ kI ∧ iZ = bif z7 a then (cI (zn a)) else iZ); let q3 := (j2 ∧ q4 ∧ false = z7 a); let q5 := (lZ (za (List.drop 1 a))); let q7 := (bif !true then true else !za (List.drop 1 (za
 (List.drop 1 a))) == bA #[]); let q6 := (!zR false q7 || zR false q7); let q10 := (ZV (List.drop 1 (za (List.drop 1 a)))); let q9 := (bif bif !true then true else !za (List.drop 1 (za (List.drop 1 a))) == bA #[] then true else zG q10 (2 : Int)); let q8 := (!zR false q9 || zR false q9); let q11 := (aI (ZV (List.drop 1 a))); let q12 := (kI ∧ ZV (List.drop 1 a) = ZV (List.drop 1 a)); let q13 := (91 = 91 ∧ 2 = 2 ∧ (kI ∧ iZ = iZ)
 ∧ kI ∧ iZ = iZ); let q14 := (bif bif !false then true else !za (List.drop 1 (za (List.drop 1 a))) == bA #[] then true else zG q10 (2 : Int)); let q15 := (zG (lZ a) (lZ a)); let q17 := (bif !true then true else !za (List.drop 1 (za a)) == bA #[]); let q16 := (!zR false q17 || zR false q17); let q19 := (bif bif !true then true else !za (List.drop 1 (za a)) == bA #[] then true else zG (ZV
 (List.drop 1 (za a))) (2 : Int)); let q18 := (!zR false q19 || zR false q19); let q20 := (bif bif !false then true else !za (List.drop 1 (za a)) == bA #[] then true else zG (ZV (List.drop 1 (za a))) (2 : Int)); ZY [AV.str a] → bF q1 (bF (!zR true !a == bA #[] || DB.db (iZ ≤ iZ ∧ iZ < (lZ a))) (bF q1 (bF (!!a == bA #[] || zR true !a == bA #[]) (zZ (bif
 !a == bA #[] then (cI (UInt8.toNat (gD a 0 (0 : UInt8)))) == (45 : Int) else false) (bF (DB.db (iZ ≤ iO ∧ iO ≤ (lZ a))) (lN (List.drop 1 a) ≤ nX ∧ zZ (yZ (List.drop 1 a)) (bF (!(zR false !true && zR true q2) || zR false !true && zR true q2) (bF (!zR false !true || (!zG (lZ (List.drop 1 a)) (lZ a) || zR false !true && zR true q2)) (zZ (bif !true then true else bif zG (lZ (List.drop 1 a))
 (lZ a) then ZV (List.drop 1 a) == iZ else false) q3 (zZ (!za (List.drop 1 a) == bA #[]) (bF (DB.db (iZ ≤ iZ ∧ iZ < q5)) (zZ ((cI (UInt8.toNat (gD (za (List.drop 1 a)) 0 (0 : UInt8)))) != (47 : Int)) q3 (bF (DB.db (iZ ≤ iO ∧ iO ≤ q5)) (lN (List.drop 1 (za (List.drop 1 a))) ≤ nX ∧ zZ (yZ (List.drop 1 (za (List.drop 1 a)))) (bF q6 (bF q6 (bF ((!!bif !true then true else !za (List.drop 1 (za (List.drop 1
 a))) == bA #[]) || zR false q7) (bF q8 (bF q8 (bF q8 ((zR false q9 = true → iZ ≤ ZV (List.drop 1 a) ∧ ZV (List.drop 1 a) ≤ iX) ∧ (zR false q9 = true → iZ ≤ ZV (List.drop 1 (za (List.drop 1 a))) ∧ ZV (List.drop 1 (za (List.drop 1 a))) ≤ iX) ∧ bF q8 (bF ((!!bif bif !true then true else !za (List.drop 1 (za (List.drop 1 a))) == bA #[] then true else zG q10 (2 : Int)) || zR false q9) (zZ (bif bif bif
 !true then true else !za (List.drop 1 (za (List.drop 1 a))) == bA #[] then true else zG q10 (2 : Int) then true else wg (ZV (List.drop 1 a)) q10 != iO) q3 (∃ (z : Int), ((z7 a = true ∧ z = (cI (zn a)) ∧ AV.int q11 = (cI (zD (zm (zQ a))))) ∧ a = a ∧ (nat_lit 0 = 0 ∧ 0 = 0) ∧ List.drop 1 a = List.drop 1 a ∧ q12 ∧ nat_lit 1 = 1 ∧ 0 = 0) ∧ q13 ∧ (91 : TypeId) = 91 ∧ 2 = 2 ∧ q12 ∧ kI ∧ ZV (List.drop 1 (za (List.drop 1 a))) = z)))))))))) ((zR false q14 =
 true → iZ ≤ ZV (List.drop 1 a) ∧ ZV (List.drop 1 a) ≤ iX) ∧ (zR false q14 = true → iZ ≤ ZV (List.drop 1 (za (List.drop 1 a))) ∧ ZV (List.drop 1 (za (List.drop 1 a))) ≤ iX) ∧ j2 ∧ q4 ∧ false = z7 a))))) (∃ (z : Int), ((z7 a = true ∧ z = (cI (zn a)) ∧ AV.int q11 = (cI (zD (zm (zQ a))))) ∧ a = a ∧ (nat_lit 0 = 0 ∧ 0 = 0) ∧ List.drop 1 a = List.drop 1 a ∧ q12 ∧ nat_lit 1 = 1 ∧ 0 = 0) ∧ q13 ∧ (91 : TypeId) = 91 ∧ 2 = 2 ∧ q12 ∧ kI ∧ iO =
 z) ∧ ∀ (z : Int), z7 a = true ∧ z = (cI (zn a)) ∧ AV.int q11 = (cI (zD (zm (zQ a)))) → zZ q2 (bF (dK (-ZV (List.drop 1 a))) (j2 ∧ (True ∧ 2 = 2 ∧ (kI ∧ -ZV (List.drop 1 a) = bif z7 a then zK a else iZ) ∧ kI ∧ z = bif z7 a then (cI (zn a)) else iZ) ∧ true = z7 a)) (j2 ∧ (True ∧ 2 = 2 ∧ (kI ∧ ZV (List.drop 1 a) = bif z7 a then zK a else iZ) ∧ kI ∧ z = bif z7 a then (↑(zn a) :
 Int) else iZ) ∧ true = z7 a))))) q3)) (lN a ≤ nX ∧ zZ (yZ a) (bF (!(zR false !true && zR true q15) || zR false !true && zR true q15) (bF (!zR false !true || (!zG (lZ a) (lZ a) || zR false !true && zR true q15)) (zZ (bif !true then true else bif zG (lZ a) (lZ a) then ZV a == iZ else false) q3 (zZ (!za a == bA #[]) (bF (DB.db (iZ ≤ iZ ∧ iZ < (cI (List.length
 (za a))))) (zZ ((cI (UInt8.toNat (gD (za a) 0 (0 : UInt8)))) != (47 : Int)) q3 (bF (DB.db (iZ ≤ iO ∧ iO ≤ (lZ (za a)))) (lN (List.drop 1 (za a)) ≤ nX ∧ zZ (yZ (List.drop 1 (za a))) (bF q16 (bF q16 (bF ((!!bif !true then true else !za (List.drop 1 (za a)) == bA #[]) || zR false q17) (bF q18 (bF q18 (bF q18 ((zR false q19 = true → iZ ≤ ZV a ∧ ZV a ≤ iX) ∧ (zR false q19 = true → (0
 : Int) ≤ ZV (List.drop 1 (za a)) ∧ ZV (List.drop 1 (za a)) ≤ iX) ∧ bF q18 (bF ((!!bif bif !true then true else !za (List.drop 1 (za a)) == bA #[] then true else zG (ZV (List.drop 1 (za a))) (2 : Int)) || zR false q19) (zZ (bif bif bif !true then true else !za (List.drop 1 (za a)) == bA #[] then true else zG (ZV (List.drop 1 (za a))) (2 : Int) then true else wg (ZV a) (ZV (List.drop 1 (za a))) != iO) q3 (∃ (z : Int), ((z7 a = true ∧
 z = (cI (zn a)) ∧ AV.int (aI (ZV a)) = (cI (zD (zm (zQ a))))) ∧ a = a ∧ (nat_lit 0 = 0 ∧ 0 = 0) ∧ a = a ∧ (kI ∧ ZV a = ZV a) ∧ nat_lit 1 = 1 ∧ 0 = 0) ∧ q13 ∧ (91 : TypeId) = 91 ∧ 2 = 2 ∧ (kI ∧ ZV a = ZV a) ∧ kI ∧ ZV (List.drop 1 (za a)) = z)))))))))) ((zR false q20 = true → iZ ≤ ZV a ∧ ZV a ≤ iX) ∧ (zR false q20 = true → iZ ≤ ZV (List.drop 1 (za a)) ∧ ZV (List.drop 1 (za a)) ≤ (9223372036854775807
 : Int)) ∧ j2 ∧ q4 ∧ false = z7 a))))) (∃ (z : Int), ((z7 a = true ∧ z = (cI (zn a)) ∧ AV.int (aI (ZV a)) = (cI (zD (zm (zQ a))))) ∧ a = a ∧ (nat_lit 0 = 0 ∧ 0 = 0) ∧ a = a ∧ (kI ∧ ZV a = ZV a) ∧ nat_lit 1 = 1 ∧ 0 = 0) ∧ q13 ∧ (91 : TypeId) = 91 ∧ 2 = 2 ∧ (kI ∧ ZV a = ZV a) ∧ kI ∧ iO = z) ∧ ∀ (z : Int), z7 a = true ∧ z = (cI (zn a)) ∧ AV.int (aI (ZV a)) = (cI (zD (zm (zQ a)))) → zZ q15 (bF (DB.db (yc
 .i64 (-ZV a))) (j2 ∧ (True ∧ 2 = 2 ∧ (kI ∧ -ZV a = bif z7 a then zK a else iZ) ∧ kI ∧ z = bif z7 a then (cI (zn a)) else iZ) ∧ true = z7 a)) (j2 ∧ (True ∧ 2 = 2 ∧ (kI ∧ ZV a = bif z7 a then zK a else iZ) ∧ kI ∧ z = bif z7 a then (cI (zn a)) else iZ) ∧ true = z7 a))))) q3))))) := by
 delta bF dK bA nX cI kI j2 lZ lN gD iZ iO iX aI
 dsimp only
 intro hb
 simp only [sS, dS, xS]
 have em : (!(a == []) && ((a.getD 0 0).toNat : Int) == 45) = zk a := by
  rw [show (((a.getD 0 0).toNat : Int) == 45) = (a.getD 0 0 == 45) from vD (a.getD 0 0) 45 (by decide)]
  unfold zk
  match a with
  | [] => rfl
  | c :: r => simp
 have e47 : ∀ c : UInt8, ((c.toNat : Int) = 47) ↔ c = 47 := fun c => by
  have := vD c 47 (by decide)
  rw [Bool.eq_iff_iff, beq_iff_eq, beq_iff_eq] at this
  exact this
 have bad : z7 a = false → 2 = [AV.junk, AV.junk].length ∧ ((0 = bif z7 a then zK a else 0) ∧ 0 = bif z7 a then (zn a : Int) else 0) ∧ false = z7 a := fun h => by rw [h]; exact ⟨rfl, ⟨rfl, rfl⟩, rfl⟩
 have rb : ∀ s : zj, yZ s = true → 0 ≤ ZV s ∧ ZV s ≤ 9223372036854775807 := fun s h => by have := (XQ h).2.2.2; omega
 have F := nf a
 rw [em]
 simp only [e47, ne_eq]
 have hpos : (!(a == [])) = true → 0 < a.length := fun h => by
  match a, h with
  | c :: r, _ => simp
 refine ⟨fun h => ⟨Int.le_refl _, by have := hpos h; omega⟩, zX.2 ⟨fun c => ?_, fun c => ?_⟩⟩
 ·have hown : zQ a = a.drop 1 := by unfold zQ; rw [c]; rfl
  have hl1 := (QR c).2
  have hlt : zG ((a.drop 1).length : Int) (a.length : Int) = zk a := by rw [c, zp, List.length_drop]; omega
  rw [hown] at F
  refine ⟨⟨by omega, by omega⟩, by rw [List.length_drop]; omega, ?_⟩
  generalize ho : a.drop 1 = o at *
  have hlo : o.length ≤ a.length := by rw [← ho, List.length_drop]; omega
  have hgt : (o.length : Int) < (a.length : Int) ↔ zk a = true := by rw [← hlt, zp]
  rw [hlt]
  refine zX.2 ⟨fun k => ?_, fun k => bad (F.f0 k)⟩
  refine UC (by cases zk a <;> rfl) ?_
  have hb1 := rb _ k
  refine zX.2 ⟨fun k2 => bad (F.f5 k (by simpa using k2)), fun k2 => ⟨zX.2 ⟨fun k3 => ?_, fun k3 => ?_⟩, fun z hz => ?_⟩⟩
  ·have k4 : za o ≠ [] := by simpa using k3
   have k5 : 0 < (za o).length := Nat.pos_of_ne_zero fun e => k4 (List.eq_nil_of_length_eq_zero e)
   have k6 : (za o).length ≤ o.length := by
    obtain ⟨_, _, h3, _⟩ := XQ k
    have := congrArg List.length h3
    rw [List.length_append] at this
    omega
   refine ⟨⟨by omega, by omega⟩, fun hne => bad (F.f3 k k4 hne), fun he => ⟨⟨by omega, by omega⟩, by rw [List.length_drop]; omega, zX.2 ⟨fun k7 => ?_, fun k7 => ?_⟩⟩⟩
   ·obtain ⟨i1, i2, i3⟩ := F.f7 k k4 he k7
    refine ⟨fun _ => hb1, fun _ => rb _ k7, zX.2 ⟨fun k8 => bad (Bool.eq_false_iff.2 fun hb => ?_), fun k8 => ?_⟩⟩
    ·obtain ⟨j1, j2, j3, j4⟩ := i1.1 hb
     rw [j2, j4, show zG (ZV ((za o).drop 1)) 2 = false from Bool.eq_false_iff.2 fun e => by have := (zp _ _).1 e; omega] at k8
     cases k8
    ·have hb : z7 a = true := i1.2 (by
      rw [Bool.or_eq_false_iff, Bool.or_eq_false_iff] at k8
      obtain ⟨⟨q1, q2⟩, q3⟩ := k8
      refine ⟨by simpa using k2, by simpa using q1, ?_, by simpa using q3⟩
      refine Decidable.byContradiction fun hn => ?_
      rw [(zp _ _).2 (by omega)] at q2
      cases q2)
     exact ⟨_, ⟨hb, (i3 hb).symm, i2⟩, rfl⟩
   ·exact ⟨fun h => by simp at h, fun h => by simp at h, bad (F.f6 k k4 he k7)⟩
  ·have k4 : za o = [] := by simpa using k3
   obtain ⟨i1, i2, i3⟩ := F.f2 k k4
   have k2' : (zk a && ZV o == 0) = false := k2
   have hb : z7 a = true := by rw [i1, k2']; rfl
   exact ⟨1, ⟨hb, by rw [i3]; rfl, i2⟩, rfl⟩
  ·obtain ⟨z1, z2, z3⟩ := hz
   have fr := F.fr
   rw [← z3] at fr
   refine ⟨fun hh => ⟨⟨by omega, by omega⟩, rfl, ⟨?_, ?_⟩, z1.symm⟩, fun hh => ⟨rfl, ⟨?_, ?_⟩, z1.symm⟩⟩
   ·rw [z1, fr, hgt.1 hh]; rfl
   ·rw [z1]; exact z2
   ·have : zk a = false := Bool.eq_false_iff.2 fun e => by have := hgt.2 e; omega
    rw [z1, fr, this]; rfl
   ·rw [z1]; exact z2
 ·have hown : zQ a = a := by unfold zQ; rw [c]; rfl
  have hlt : zG (a.length : Int) (a.length : Int) = zk a := by rw [c, Bool.eq_false_iff, Ne, zp]; omega
  rw [hown] at F
  have hlo : a.length ≤ a.length := Nat.le_refl _
  have hgt : (a.length : Int) < (a.length : Int) ↔ zk a = true := by rw [← hlt, zp]
  refine ⟨by omega, ?_⟩
  rw [hlt]
  refine zX.2 ⟨fun k => ?_, fun k => bad (F.f0 k)⟩
  refine UC (by cases zk a <;> rfl) ?_
  have hb1 := rb _ k
  refine zX.2 ⟨fun k2 => bad (F.f5 k (by simpa using k2)), fun k2 => ⟨zX.2 ⟨fun k3 => ?_, fun k3 => ?_⟩, fun z hz => ?_⟩⟩
  ·have k4 : za a ≠ [] := by simpa using k3
   have k5 : 0 < (za a).length := Nat.pos_of_ne_zero fun e => k4 (List.eq_nil_of_length_eq_zero e)
   have k6 : (za a).length ≤ a.length := by
    obtain ⟨_, _, h3, _⟩ := XQ k
    have := congrArg List.length h3
    rw [List.length_append] at this
    omega
   refine ⟨⟨by omega, by omega⟩, fun hne => bad (F.f3 k k4 hne), fun he => ⟨⟨by omega, by omega⟩, by rw [List.length_drop]; omega, zX.2 ⟨fun k7 => ?_, fun k7 => ?_⟩⟩⟩
   ·obtain ⟨i1, i2, i3⟩ := F.f7 k k4 he k7
    refine ⟨fun _ => hb1, fun _ => rb _ k7, zX.2 ⟨fun k8 => bad (Bool.eq_false_iff.2 fun hb => ?_), fun k8 => ?_⟩⟩
    ·obtain ⟨j1, j2, j3, j4⟩ := i1.1 hb
     rw [j2, j4, show zG (ZV ((za a).drop 1)) 2 = false from Bool.eq_false_iff.2 fun e => by have := (zp _ _).1 e; omega] at k8
     cases k8
    ·have hb : z7 a = true := i1.2 (by
      rw [Bool.or_eq_false_iff, Bool.or_eq_false_iff] at k8
      obtain ⟨⟨q1, q2⟩, q3⟩ := k8
      refine ⟨by simpa using k2, by simpa using q1, ?_, by simpa using q3⟩
      refine Decidable.byContradiction fun hn => ?_
      rw [(zp _ _).2 (by omega)] at q2
      cases q2)
     exact ⟨_, ⟨hb, (i3 hb).symm, i2⟩, rfl⟩
   ·exact ⟨fun h => by simp at h, fun h => by simp at h, bad (F.f6 k k4 he k7)⟩
  ·have k4 : za a = [] := by simpa using k3
   obtain ⟨i1, i2, i3⟩ := F.f2 k k4
   have k2' : (zk a && ZV a == 0) = false := k2
   have hb : z7 a = true := by rw [i1, k2']; rfl
   exact ⟨1, ⟨hb, by rw [i3]; rfl, i2⟩, rfl⟩
  ·obtain ⟨z1, z2, z3⟩ := hz
   have fr := F.fr
   rw [← z3] at fr
   refine ⟨fun hh => ⟨⟨by omega, by omega⟩, rfl, ⟨?_, ?_⟩, z1.symm⟩, fun hh => ⟨rfl, ⟨?_, ?_⟩, z1.symm⟩⟩
   ·rw [z1, fr, hgt.1 hh]; rfl
   ·rw [z1]; exact z2
   ·have : zk a = false := Bool.eq_false_iff.2 fun e => by have := hgt.2 e; omega
    rw [z1, fr, this]; rfl
   ·rw [z1]; exact z2
theorem MS (a : List UInt8) (hl : a.length ≤ 9223372036854775807) : zu Tryz.prog [] 55 [.str a] (.tup 2 (zw [.agg 2 (zw [.i (bif z7 a then zK a else 0), .i (bif z7 a then (zn a : Int) else 0)]), .b (z7 a)])) :=
 zv (T := Gp) (an := l5 a) mixed Oa (Eq.mp (by kernel_rfl) (K9 a hl))
theorem sd : zP Tryz.prog [] 55 Vn := by
 intro xs ps r h hp
 unfold Vn at h
 split at h
 ·skip
  rename_i a
  cases h
  obtain ⟨q0, -⟩ := Zo hp
  exact weaken (ys := [.str a]) ⟨zV _, trivial⟩ (MS a q0)
 ·cases h
end Go.Te
