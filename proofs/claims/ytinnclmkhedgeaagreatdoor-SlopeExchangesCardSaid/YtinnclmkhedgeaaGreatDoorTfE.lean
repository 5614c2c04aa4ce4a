/- rational: nativeOf. -/
import Derived.Test.YtinnclmkhedgeaaGreatDoorTfS
set_option linter.unusedSimpArgs false
set_option linter.unusedVariables false
namespace Go.Te
open Go Go.Sx Go.Proofs Go.Ar
set_option maxRecDepth 100000
set_option maxHeartbeats 4000000
def zZ (a : zL) : Bool := Zj a == 0 && leB ((zR (zv a)).length : Int) 8 && leB ((zI (zv a)).length : Int) 8
theorem wE (s : zL) : YF s ++ s.drop (YF s).length = s := by
 have h : s = s.takeWhile ZZ ++ s.dropWhile ZZ := (List.takeWhile_append_dropWhile).symm
 have gen : ∀ t u : zL, t ++ u = s → s.drop t.length = u := by
  rintro t u rfl
  exact List.drop_left
 have h2 : s.drop (YF s).length = s.dropWhile ZZ := gen _ _ h.symm
 rw [h2]
 exact h.symm
theorem sq (s : zL) : ∀ c ∈ YF s, ZZ c = true := fun c hc => List.all_eq_true.1 (List.all_takeWhile (l := s) (p := ZZ)) c hc
theorem Yt {s : zL} : ZV s = true ↔ Zt (YF s) = true ∧ (YF s).length ≤ 8 := by
 unfold ZV
 rw [Bool.and_eq_true, ZY]
 exact ⟨fun h => ⟨h.1, by omega⟩, fun h => ⟨h.1, by omega⟩⟩
theorem yd {s : zL} (h : ZV s = true) : zG s = (zi (YF s) : Int) ∧ zK s = s.drop (YF s).length ∧ YF s ++ zK s = s ∧ 0 ≤ zG s ∧ zG s ≤ 99999999 := by
 have e1 : zG s = (zi (YF s) : Int) := by unfold zG; rw [h]; rfl
 have e2 : zK s = s.drop (YF s).length := by unfold zK; rw [h]; rfl
 obtain ⟨h1, h2⟩ := Yt.1 h
 have b := xf h1 (k := 8) h2
 rw [show 10 ^ 8 = 100000000 from by decide] at b
 exact ⟨e1, e2, by rw [e2]; exact wE s, by omega, by omega⟩
theorem Vz {s : zL} (h : Zt s = true) : YF s = s := by
 have := vC (a := s) (b := []) (ZT.1 h).2.1
 rw [List.append_nil] at this
 rw [this]
 show s ++ [] = s
 simp
theorem uX {s : zL} (h : Zt s = true) (hl : s.length ≤ 8) : ZV s = true ∧ zG s = (zi s : Int) ∧ zK s = [] := by
 have ht := Vz h
 have ho : ZV s = true := Yt.2 (by rw [ht]; exact ⟨h, hl⟩)
 obtain ⟨n1, n2, _⟩ := yd ho
 rw [ht] at n1 n2
 exact ⟨ho, n1, by rw [n2]; simp⟩
theorem wB {s : zL} (h : ZV s = true) (hr : zK s = []) : Zt s = true ∧ s.length ≤ 8 ∧ zG s = (zi s : Int) := by
 obtain ⟨n1, n2, n3, _⟩ := yd h
 rw [hr, List.append_nil] at n3
 obtain ⟨h1, h2⟩ := Yt.1 h
 rw [n3] at h1 h2 n1
 exact ⟨h1, h2, n1⟩
theorem YQ {a : zL} : zZ a = true ↔ Xs a = true ∧ (zR (zv a)).length ≤ 8 ∧ (zI (zv a)).length ≤ 8 ∧ (zr (zv a) = true → Nat.gcd (zi (zR (zv a))) (zi (zI (zv a))) = 1) := by
 unfold zZ
 rw [Bool.and_eq_true, Bool.and_eq_true, ZY, ZY, beq_iff_eq]
 constructor
 ·rintro ⟨⟨h1, h2⟩, h3⟩
  cases hf : Xs a with
  | false => rw [Su hf] at h1; cases h1
  | true =>
   refine ⟨rfl, by omega, by omega, fun hs => ?_⟩
   rw [uF hf ⟨by omega, by omega⟩ hs] at h1
   cases hg : Nat.beq (Nat.gcd (zi (zR (zv a))) (zi (zI (zv a)))) 1 with
   | true => exact Nat.eq_of_beq_eq_true hg
   | false => rw [hg] at h1; cases h1
 ·rintro ⟨h1, h2, h3, h4⟩
  refine ⟨⟨?_, by omega⟩, by omega⟩
  cases hs : zr (zv a) with
  | false => exact sM h1 (by omega) hs
  | true =>
   rw [uF h1 ⟨by omega, by omega⟩ hs, h4 hs]
   rfl
theorem YU {a : zL} : Xs a = true ↔ Zt (zR (zv a)) = true ∧ ¬ (zE a = true ∧ zR (zv a) = [48]) ∧ (zr (zv a) = true → Zt (zI (zv a)) = true ∧ zI (zv a) ≠ [48] ∧ zI (zv a) ≠ [49]) := by
 unfold Xs
 rw [Bool.and_eq_true, Bool.and_eq_true, Bool.not_eq_true', Bool.and_eq_false_iff, Bool.or_eq_true, Bool.and_eq_true, Bool.and_eq_true, Bool.not_eq_true', Bool.not_eq_true', Bool.not_eq_true', beq_eq_false_iff_ne, beq_eq_false_iff_ne, beq_eq_false_iff_ne]
 constructor
 ·rintro ⟨⟨h1, h2⟩, h3⟩
  refine ⟨h1, fun h => ?_, fun h => ?_⟩
  ·rcases h2 with h2 | h2
   ·rw [h.1] at h2; cases h2
   ·exact h2 h.2
  ·rcases h3 with h3 | h3
   ·rw [h] at h3; cases h3
   ·exact ⟨h3.1.1, h3.1.2, h3.2⟩
 ·rintro ⟨h1, h2, h3⟩
  refine ⟨⟨h1, ?_⟩, ?_⟩
  ·cases hm : zE a with
   | false => exact .inl rfl
   | true => exact .inr fun e => h2 ⟨hm, e⟩
  ·cases hs : zr (zv a) with
   | false => exact .inl rfl
   | true => have := h3 hs; exact .inr ⟨⟨this.1, this.2.1⟩, this.2.2⟩
theorem sy {s : zL} (h : Zt s = true) : zi s = 0 ↔ s = [48] := ⟨fun e => vx h e, fun e => by rw [e]; decide⟩
theorem pd {s : zL} (h : Zt s = true) : zi s = 1 ↔ s = [49] := ⟨fun e => by
 have := ZS h
 rw [e, zH (by omega)] at this
 exact this.symm, fun e => by rw [e]; decide⟩
structure NF (a o : zL) : Prop where
 f0 : ZV o = false → zZ a = false
 f1 : ZV o = true → 0 ≤ zG o ∧ zG o ≤ 99999999
 f2 : ZV o = true → zK o = [] → zZ a = !(zE a && zG o == 0) ∧ zG o = (zi (zR (zv a)) : Int) ∧ zS a = 1
 f3 : ZV o = true → zK o ≠ [] → (zK o).getD 0 0 ≠ 47 → zZ a = false
 f5 : ZV o = true → (zE a && zG o == 0) = true → zZ a = false
 f6 : ZV o = true → zK o ≠ [] → (zK o).getD 0 0 = 47 → ZV ((zK o).drop 1) = false → zZ a = false
 f7 : ZV o = true → zK o ≠ [] → (zK o).getD 0 0 = 47 → ZV ((zK o).drop 1) = true →
  (zZ a = true ↔ (zE a && zG o == 0) = false ∧ zK ((zK o).drop 1) = [] ∧ 2 ≤ zG ((zK o).drop 1) ∧ xZ (zG o) (zG ((zK o).drop 1)) = 1) ∧ zG o = (zi (zR (zv a)) : Int) ∧ (zZ a = true → (zS a : Int) = zG ((zK o).drop 1))
 fr : zU a = bif zE a then -(zi (zR (zv a)) : Int) else (zi (zR (zv a)) : Int)
theorem Vg {a : zL} (h : zZ a = true) : ZV (zv a) = true ∧ zG (zv a) = (zi (zR (zv a)) : Int) ∧ zK (zv a) = (bif zr (zv a) then 47 :: zI (zv a) else []) := by
 obtain ⟨h1, h2, h3, h4⟩ := YQ.1 h
 obtain ⟨g1, g2, g3⟩ := YU.1 h1
 have ht : YF (zv a) = zR (zv a) ∧ (zv a).drop (zR (zv a)).length = (bif zr (zv a) then 47 :: zI (zv a) else []) := by
  cases hs : zr (zv a) with
  | false =>
   obtain ⟨c1, c2⟩ := Z6 hs
   rw [c1] at g1 ⊢
   exact ⟨Vz g1, by simp⟩
  | true =>
   have he := xy hs
   have e1 : YF (zv a) = zR (zv a) := by
    conv => lhs; rw [he]
    rw [vC (ZT.1 g1).2.1]
    show zR (zv a) ++ [] = _
    rw [List.append_nil]
   refine ⟨e1, ?_⟩
   conv => lhs; arg 2; rw [he]
   rw [List.drop_left]
   rfl
 have ho : ZV (zv a) = true := Yt.2 (by rw [ht.1]; exact ⟨g1, h2⟩)
 obtain ⟨n1, n2, _⟩ := yd ho
 rw [ht.1] at n1 n2
 exact ⟨ho, n1, by rw [n2, ht.2]⟩
theorem Xv {a : zL} : zU a = (bif zE a then -(zi (zR (zv a)) : Int) else (zi (zR (zv a)) : Int)) ∧ zS a = (bif zr (zv a) then zi (zI (zv a)) else 1) := by
 obtain ⟨_, _, _, _, _, h6, h7⟩ := yU a
 exact ⟨h6, h7⟩
theorem nf (a : zL) : NF a (zv a) := by
 obtain ⟨r1, r2⟩ := Xv (a := a)
 have neg : ZV (zv a) = true → (zE a && zG (zv a) == 0) = true → zZ a = false := fun h hz => Bool.eq_false_iff.2 fun hb => by
  obtain ⟨_, n1, _⟩ := Vg hb
  obtain ⟨h1, _⟩ := YQ.1 hb
  obtain ⟨g1, g2, _⟩ := YU.1 h1
  rw [Bool.and_eq_true, beq_iff_eq, n1] at hz
  exact g2 ⟨hz.1, (sy g1).1 (by omega)⟩
 have sm : ZV (zv a) = true → zK (zv a) ≠ [] → (zK (zv a)).getD 0 0 = 47 → zR (zv a) = YF (zv a) ∧ zI (zv a) = (zK (zv a)).drop 1 ∧ zr (zv a) = true := fun h h1 h2 => by
  obtain ⟨n1, n2, n3, _⟩ := yd h
  have e : zK (zv a) = 47 :: (zK (zv a)).drop 1 := by
   match zK (zv a), h1, h2 with
   | c :: r, _, h2 => rw [show c = 47 from h2]; rfl
  rw [e] at n3
  have := Wj (a := YF (zv a)) (b := (zK (zv a)).drop 1) fun c hc => Wz (sq _ c hc)
  rw [n3] at this
  exact this
 refine ⟨fun h => Bool.eq_false_iff.2 fun hb => ?_, fun h => (yd h).2.2.2, fun h h1 => ?_, fun h h1 h2 => Bool.eq_false_iff.2 fun hb => ?_, neg, fun h h1 h2 h3 => Bool.eq_false_iff.2 fun hb => ?_, fun h h1 h2 h3 => ?_, r1⟩
 ·rw [(Vg hb).1] at h; cases h
 ·obtain ⟨b1, b2, b3⟩ := wB h h1
  obtain ⟨c1, c2, c3⟩ := SY (s := zv a) fun i hi e => by
   have := (ZT.1 b1).2.1 _ (Sb (s := zv a) (i := i) hi)
   rw [e] at this
   cases this
  rw [c2, r2, c1]
  refine ⟨?_, b3, rfl⟩
  rw [Bool.eq_iff_iff, YQ, YU, c1, c2, c3, Bool.not_eq_true', b3]
  constructor
  ·rintro ⟨⟨_, g2, _⟩, _⟩
   rw [Bool.and_eq_false_iff]
   cases hm : zE a with
   | false => exact .inl rfl
   | true => exact .inr (beq_eq_false_iff_ne.2 fun e => g2 ⟨hm, (sy b1).1 (by omega)⟩)
  ·intro g
   refine ⟨⟨b1, fun g2 => ?_, fun e => by cases e⟩, b2, by simp, fun e => by cases e⟩
   rw [g2.1, g2.2] at g
   cases g
 ·have := (Vg hb).2.2
  rw [this] at h1 h2
  cases hs : zr (zv a) with
  | false => rw [hs] at h1; exact h1 rfl
  | true => rw [hs] at h2; exact h2 rfl
 ·obtain ⟨c1, c2, c3⟩ := sm h h1 h2
  obtain ⟨k1, k2, k3, _⟩ := YQ.1 hb
  have d1 := (YU.1 k1).2.2 c3
  rw [c2] at d1 k3
  rw [(uX d1.1 k3).1] at h3
  cases h3
 ·obtain ⟨c1, c2, c3⟩ := sm h h1 h2
  obtain ⟨n1, _, _, _⟩ := yd h
  obtain ⟨o1, o2⟩ := Yt.1 h
  rw [c1, r2, c3, c2]
  obtain ⟨m1, _, _, m4, m5⟩ := yd h3
  have hgO : xZ (zG (zv a)) (zG ((zK (zv a)).drop 1)) = (Nat.gcd (zG (zv a)).toNat (zG ((zK (zv a)).drop 1)).toNat : Int) := by
   unfold xZ
   rw [(ZY _ _).2 (yd h).2.2.2.1, (ZY _ _).2 m4]
   rfl
  have key : zZ a = true ↔ (zE a && zG (zv a) == 0) = false ∧ zK ((zK (zv a)).drop 1) = [] ∧ 2 ≤ zG ((zK (zv a)).drop 1) ∧ xZ (zG (zv a)) (zG ((zK (zv a)).drop 1)) = 1 := by
   rw [YQ, YU, c1, c2, c3, hgO]
   constructor
   ·rintro ⟨⟨_, g2, g3⟩, g4, g5, g6⟩
    obtain ⟨g7, g8, g9⟩ := g3 rfl
    obtain ⟨q1, q2, q3⟩ := uX g7 g5
    have z0 : zi ((zK (zv a)).drop 1) ≠ 0 := fun e => g8 ((sy g7).1 e)
    have z1 : zi ((zK (zv a)).drop 1) ≠ 1 := fun e => g9 ((pd g7).1 e)
    refine ⟨?_, q3, by omega, ?_⟩
    ·rw [Bool.and_eq_false_iff]
     cases hm : zE a with
     | false => exact .inl rfl
     | true => exact .inr (beq_eq_false_iff_ne.2 fun e => g2 ⟨hm, (sy o1).1 (by omega)⟩)
    ·rw [n1, q2, Int.toNat_natCast, Int.toNat_natCast, g6 rfl]; rfl
   ·rintro ⟨g1, g2, g3, g4⟩
    obtain ⟨q1, q2, q3⟩ := wB h3 g2
    have z0 : zi ((zK (zv a)).drop 1) ≠ 0 := by omega
    have z1 : zi ((zK (zv a)).drop 1) ≠ 1 := by omega
    refine ⟨⟨o1, fun e => ?_, fun _ => ⟨q1, fun e => z0 ((sy q1).2 e), fun e => z1 ((pd q1).2 e)⟩⟩, o2, q2, fun _ => ?_⟩
    ·rw [e.1, n1, (sy o1).2 e.2] at g1
     cases g1
    ·rw [n1, q3, Int.toNat_natCast, Int.toNat_natCast] at g4
     omega
  refine ⟨key, n1, fun hb => ?_⟩
  obtain ⟨_, g2, _⟩ := key.1 hb
  obtain ⟨q1, q2, q3⟩ := wB h3 g2
  rw [q3]
  rfl
noncomputable def Pi : Tb := (T0.plus 110 Vo).plus 111 VZ
theorem Tp : zz Tryz.prog Pi := zz.plus (zz.plus zN Rr) sF
def R4 (a : zL) (x y : Z4) : Z4 := .join Int (fun σ _ => [(0, σ.tm 0), (2, σ.tm 2), (4, σ.tm 4), (5, σ.tm 5), (8, σ.tm 8)]) (fun σ z => [(1, .box 66 2 (zY [σ.tm 5, .i z]))]) 0
 (fun σ z => zZ a = true ∧ z = (zS a : Int) ∧ AV.int (σ.tm 5) = (zi (zR (zv a)) : Int)) x y
def Rx (a : zL) : Z4 := .two .auto (.two .auto (.two .auto (.two .auto (.split 7 .auto (.two .auto (R4 a (.two .auto (.two (.two .auto (.two .auto (.split 7 .auto .auto))) .auto)) .auto))))))
def Uh : List AV → Option (List zO × AV)
 | [.str a] => some ([.p (a.length ≤ 9223372036854775807)], .tup 2 (zY [.agg 2 (zY [.i (bif zZ a then zU a else 0), .i (bif zZ a then (zS a : Int) else 0)]), .b (zZ a)]))
 | _ => none
theorem R1 (a : List UInt8) (hl : a.length ≤ 9223372036854775807) :
 let q1 := (!zq true !a == bA #[] || zq true !a == bA #[]); let q2 := (Zz (lZ (List.drop 1 a)) (lZ a)); let q4 := (True ∧ 2 = 2 ∧ (kI ∧ iZ = bif zZ a then zU a else iZ) ∧ kI ∧ iZ = bif zZ a then (cI (zS a)) else iZ); let q3 := (j2 ∧ q4 ∧ false = zZ a); let q5 := (lZ (zK (List.drop 1 a))); let q7 := (bif !true then true else !zK (List.drop 1 (zK
 (List.drop 1 a))) == bA #[]); let q6 := (!zq false q7 || zq false q7); let q10 := (zG (List.drop 1 (zK (List.drop 1 a)))); let q9 := (bif bif !true then true else !zK (List.drop 1 (zK (List.drop 1 a))) == bA #[] then true else Zz q10 (2 : Int)); let q8 := (!zq false q9 || zq false q9); let q11 := (aI (zG (List.drop 1 a))); let q12 := (kI ∧ zG (List.drop 1 a) = zG (List.drop 1 a)); let q13 := (66 = 66 ∧ 2 = 2 ∧ (kI ∧ iZ = iZ)
 ∧ kI ∧ iZ = iZ); let q14 := (bif bif !false then true else !zK (List.drop 1 (zK (List.drop 1 a))) == bA #[] then true else Zz q10 (2 : Int)); let q15 := (Zz (lZ a) (lZ a)); let q17 := (bif !true then true else !zK (List.drop 1 (zK a)) == bA #[]); let q16 := (!zq false q17 || zq false q17); let q19 := (bif bif !true then true else !zK (List.drop 1 (zK a)) == bA #[] then true else Zz (zG
 (List.drop 1 (zK a))) (2 : Int)); let q18 := (!zq false q19 || zq false q19); let q20 := (bif bif !false then true else !zK (List.drop 1 (zK a)) == bA #[] then true else Zz (zG (List.drop 1 (zK a))) (2 : Int)); Zw [AV.str a] → bF q1 (bF (!zq true !a == bA #[] || DB.db (iZ ≤ iZ ∧ iZ < (lZ a))) (bF q1 (bF (!!a == bA #[] || zq true !a == bA #[]) (zw (bif
 !a == bA #[] then (cI (UInt8.toNat (gD a 0 (0 : UInt8)))) == (45 : Int) else false) (bF (DB.db (iZ ≤ iO ∧ iO ≤ (lZ a))) (lN (List.drop 1 a) ≤ nX ∧ zw (ZV (List.drop 1 a)) (bF (!(zq false !true && zq true q2) || zq false !true && zq true q2) (bF (!zq false !true || (!Zz (lZ (List.drop 1 a)) (lZ a) || zq false !true && zq true q2)) (zw (bif !true then true else bif Zz (lZ (List.drop 1 a))
 (lZ a) then zG (List.drop 1 a) == iZ else false) q3 (zw (!zK (List.drop 1 a) == bA #[]) (bF (DB.db (iZ ≤ iZ ∧ iZ < q5)) (zw ((cI (UInt8.toNat (gD (zK (List.drop 1 a)) 0 (0 : UInt8)))) != (47 : Int)) q3 (bF (DB.db (iZ ≤ iO ∧ iO ≤ q5)) (lN (List.drop 1 (zK (List.drop 1 a))) ≤ nX ∧ zw (ZV (List.drop 1 (zK (List.drop 1 a)))) (bF q6 (bF q6 (bF ((!!bif !true then true else !zK (List.drop 1 (zK (List.drop 1
 a))) == bA #[]) || zq false q7) (bF q8 (bF q8 (bF q8 ((zq false q9 = true → iZ ≤ zG (List.drop 1 a) ∧ zG (List.drop 1 a) ≤ iX) ∧ (zq false q9 = true → iZ ≤ zG (List.drop 1 (zK (List.drop 1 a))) ∧ zG (List.drop 1 (zK (List.drop 1 a))) ≤ iX) ∧ bF q8 (bF ((!!bif bif !true then true else !zK (List.drop 1 (zK (List.drop 1 a))) == bA #[] then true else Zz q10 (2 : Int)) || zq false q9) (zw (bif bif bif
 !true then true else !zK (List.drop 1 (zK (List.drop 1 a))) == bA #[] then true else Zz q10 (2 : Int) then true else xZ (zG (List.drop 1 a)) q10 != iO) q3 (∃ (z : Int), ((zZ a = true ∧ z = (cI (zS a)) ∧ AV.int q11 = (cI (zi (zR (zv a))))) ∧ a = a ∧ (nat_lit 0 = 0 ∧ 0 = 0) ∧ List.drop 1 a = List.drop 1 a ∧ q12 ∧ nat_lit 1 = 1 ∧ 0 = 0) ∧ q13 ∧ (66 : TypeId) = 66 ∧ 2 = 2 ∧ q12 ∧ kI ∧ zG (List.drop 1 (zK (List.drop 1 a))) = z)))))))))) ((zq false q14 =
 true → iZ ≤ zG (List.drop 1 a) ∧ zG (List.drop 1 a) ≤ iX) ∧ (zq false q14 = true → iZ ≤ zG (List.drop 1 (zK (List.drop 1 a))) ∧ zG (List.drop 1 (zK (List.drop 1 a))) ≤ iX) ∧ j2 ∧ q4 ∧ false = zZ a))))) (∃ (z : Int), ((zZ a = true ∧ z = (cI (zS a)) ∧ AV.int q11 = (cI (zi (zR (zv a))))) ∧ a = a ∧ (nat_lit 0 = 0 ∧ 0 = 0) ∧ List.drop 1 a = List.drop 1 a ∧ q12 ∧ nat_lit 1 = 1 ∧ 0 = 0) ∧ q13 ∧ (66 : TypeId) = 66 ∧ 2 = 2 ∧ q12 ∧ kI ∧ iO =
 z) ∧ ∀ (z : Int), zZ a = true ∧ z = (cI (zS a)) ∧ AV.int q11 = (cI (zi (zR (zv a)))) → zw q2 (bF (dK (-zG (List.drop 1 a))) (j2 ∧ (True ∧ 2 = 2 ∧ (kI ∧ -zG (List.drop 1 a) = bif zZ a then zU a else iZ) ∧ kI ∧ z = bif zZ a then (cI (zS a)) else iZ) ∧ true = zZ a)) (j2 ∧ (True ∧ 2 = 2 ∧ (kI ∧ zG (List.drop 1 a) = bif zZ a then zU a else iZ) ∧ kI ∧ z = bif zZ a then (↑(zS a) :
 Int) else iZ) ∧ true = zZ a))))) q3)) (lN a ≤ nX ∧ zw (ZV a) (bF (!(zq false !true && zq true q15) || zq false !true && zq true q15) (bF (!zq false !true || (!Zz (lZ a) (lZ a) || zq false !true && zq true q15)) (zw (bif !true then true else bif Zz (lZ a) (lZ a) then zG a == iZ else false) q3 (zw (!zK a == bA #[]) (bF (DB.db (iZ ≤ iZ ∧ iZ < (cI (List.length
 (zK a))))) (zw ((cI (UInt8.toNat (gD (zK a) 0 (0 : UInt8)))) != (47 : Int)) q3 (bF (DB.db (iZ ≤ iO ∧ iO ≤ (lZ (zK a)))) (lN (List.drop 1 (zK a)) ≤ nX ∧ zw (ZV (List.drop 1 (zK a))) (bF q16 (bF q16 (bF ((!!bif !true then true else !zK (List.drop 1 (zK a)) == bA #[]) || zq false q17) (bF q18 (bF q18 (bF q18 ((zq false q19 = true → iZ ≤ zG a ∧ zG a ≤ iX) ∧ (zq false q19 = true → (0
 : Int) ≤ zG (List.drop 1 (zK a)) ∧ zG (List.drop 1 (zK a)) ≤ iX) ∧ bF q18 (bF ((!!bif bif !true then true else !zK (List.drop 1 (zK a)) == bA #[] then true else Zz (zG (List.drop 1 (zK a))) (2 : Int)) || zq false q19) (zw (bif bif bif !true then true else !zK (List.drop 1 (zK a)) == bA #[] then true else Zz (zG (List.drop 1 (zK a))) (2 : Int) then true else xZ (zG a) (zG (List.drop 1 (zK a))) != iO) q3 (∃ (z : Int), ((zZ a = true ∧
 z = (cI (zS a)) ∧ AV.int (aI (zG a)) = (cI (zi (zR (zv a))))) ∧ a = a ∧ (nat_lit 0 = 0 ∧ 0 = 0) ∧ a = a ∧ (kI ∧ zG a = zG a) ∧ nat_lit 1 = 1 ∧ 0 = 0) ∧ q13 ∧ (66 : TypeId) = 66 ∧ 2 = 2 ∧ (kI ∧ zG a = zG a) ∧ kI ∧ zG (List.drop 1 (zK a)) = z)))))))))) ((zq false q20 = true → iZ ≤ zG a ∧ zG a ≤ iX) ∧ (zq false q20 = true → iZ ≤ zG (List.drop 1 (zK a)) ∧ zG (List.drop 1 (zK a)) ≤ (9223372036854775807
 : Int)) ∧ j2 ∧ q4 ∧ false = zZ a))))) (∃ (z : Int), ((zZ a = true ∧ z = (cI (zS a)) ∧ AV.int (aI (zG a)) = (cI (zi (zR (zv a))))) ∧ a = a ∧ (nat_lit 0 = 0 ∧ 0 = 0) ∧ a = a ∧ (kI ∧ zG a = zG a) ∧ nat_lit 1 = 1 ∧ 0 = 0) ∧ q13 ∧ (66 : TypeId) = 66 ∧ 2 = 2 ∧ (kI ∧ zG a = zG a) ∧ kI ∧ iO = z) ∧ ∀ (z : Int), zZ a = true ∧ z = (cI (zS a)) ∧ AV.int (aI (zG a)) = (cI (zi (zR (zv a)))) → zw q15 (bF (DB.db (Ys
 .i64 (-zG a))) (j2 ∧ (True ∧ 2 = 2 ∧ (kI ∧ -zG a = bif zZ a then zU a else iZ) ∧ kI ∧ z = bif zZ a then (cI (zS a)) else iZ) ∧ true = zZ a)) (j2 ∧ (True ∧ 2 = 2 ∧ (kI ∧ zG a = bif zZ a then zU a else iZ) ∧ kI ∧ z = bif zZ a then (cI (zS a)) else iZ) ∧ true = zZ a))))) q3))))) := by
 delta bF dK bA nX cI kI j2 lZ lN gD iZ iO iX aI
 dsimp only
 intro hb
 simp only [sS, dS, xU]
 have em : (!(a == []) && ((a.getD 0 0).toNat : Int) == 45) = zE a := by
  rw [show (((a.getD 0 0).toNat : Int) == 45) = (a.getD 0 0 == 45) from XQ (a.getD 0 0) 45 (by decide)]
  unfold zE
  match a with
  | [] => rfl
  | c :: r => simp
 have e47 : ∀ c : UInt8, ((c.toNat : Int) = 47) ↔ c = 47 := fun c => by
  have := XQ c 47 (by decide)
  rw [Bool.eq_iff_iff, beq_iff_eq, beq_iff_eq] at this
  exact this
 have bad : zZ a = false → 2 = [AV.junk, AV.junk].length ∧ ((0 = bif zZ a then zU a else 0) ∧ 0 = bif zZ a then (zS a : Int) else 0) ∧ false = zZ a := fun h => by rw [h]; exact ⟨rfl, ⟨rfl, rfl⟩, rfl⟩
 have rb : ∀ s : zL, ZV s = true → 0 ≤ zG s ∧ zG s ≤ 9223372036854775807 := fun s h => by have := (yd h).2.2.2; omega
 have F := nf a
 rw [em]
 simp only [e47, ne_eq]
 have hpos : (!(a == [])) = true → 0 < a.length := fun h => by
  match a, h with
  | c :: r, _ => simp
 refine ⟨fun h => ⟨Int.le_refl _, by have := hpos h; omega⟩, zT.2 ⟨fun c => ?_, fun c => ?_⟩⟩
 ·have hown : zv a = a.drop 1 := by unfold zv; rw [c]; rfl
  have hl1 := (tr c).2
  have hlt : Zz ((a.drop 1).length : Int) (a.length : Int) = zE a := by rw [c, zm, List.length_drop]; omega
  rw [hown] at F
  refine ⟨⟨by omega, by omega⟩, by rw [List.length_drop]; omega, ?_⟩
  generalize ho : a.drop 1 = o at *
  have hlo : o.length ≤ a.length := by rw [← ho, List.length_drop]; omega
  have hgt : (o.length : Int) < (a.length : Int) ↔ zE a = true := by rw [← hlt, zm]
  rw [hlt]
  refine zT.2 ⟨fun k => ?_, fun k => bad (F.f0 k)⟩
  refine vv (by cases zE a <;> rfl) ?_
  have hb1 := rb _ k
  refine zT.2 ⟨fun k2 => bad (F.f5 k (by simpa using k2)), fun k2 => ⟨zT.2 ⟨fun k3 => ?_, fun k3 => ?_⟩, fun z hz => ?_⟩⟩
  ·have k4 : zK o ≠ [] := by simpa using k3
   have k5 : 0 < (zK o).length := Nat.pos_of_ne_zero fun e => k4 (List.eq_nil_of_length_eq_zero e)
   have k6 : (zK o).length ≤ o.length := by
    obtain ⟨_, _, h3, _⟩ := yd k
    have := congrArg List.length h3
    rw [List.length_append] at this
    omega
   refine ⟨⟨by omega, by omega⟩, fun hne => bad (F.f3 k k4 hne), fun he => ⟨⟨by omega, by omega⟩, by rw [List.length_drop]; omega, zT.2 ⟨fun k7 => ?_, fun k7 => ?_⟩⟩⟩
   ·obtain ⟨i1, i2, i3⟩ := F.f7 k k4 he k7
    refine ⟨fun _ => hb1, fun _ => rb _ k7, zT.2 ⟨fun k8 => bad (Bool.eq_false_iff.2 fun hb => ?_), fun k8 => ?_⟩⟩
    ·obtain ⟨j1, j2, j3, j4⟩ := i1.1 hb
     rw [j2, j4, show Zz (zG ((zK o).drop 1)) 2 = false from Bool.eq_false_iff.2 fun e => by have := (zm _ _).1 e; omega] at k8
     cases k8
    ·have hb : zZ a = true := i1.2 (by
      rw [Bool.or_eq_false_iff, Bool.or_eq_false_iff] at k8
      obtain ⟨⟨q1, q2⟩, q3⟩ := k8
      refine ⟨by simpa using k2, by simpa using q1, ?_, by simpa using q3⟩
      refine Decidable.byContradiction fun hn => ?_
      rw [(zm _ _).2 (by omega)] at q2
      cases q2)
     exact ⟨_, ⟨hb, (i3 hb).symm, i2⟩, rfl⟩
   ·exact ⟨fun h => by simp at h, fun h => by simp at h, bad (F.f6 k k4 he k7)⟩
  ·have k4 : zK o = [] := by simpa using k3
   obtain ⟨i1, i2, i3⟩ := F.f2 k k4
   have k2' : (zE a && zG o == 0) = false := k2
   have hb : zZ a = true := by rw [i1, k2']; rfl
   exact ⟨1, ⟨hb, by rw [i3]; rfl, i2⟩, rfl⟩
  ·obtain ⟨z1, z2, z3⟩ := hz
   have fr := F.fr
   rw [← z3] at fr
   refine ⟨fun hh => ⟨⟨by omega, by omega⟩, rfl, ⟨?_, ?_⟩, z1.symm⟩, fun hh => ⟨rfl, ⟨?_, ?_⟩, z1.symm⟩⟩
   ·rw [z1, fr, hgt.1 hh]; rfl
   ·rw [z1]; exact z2
   ·have : zE a = false := Bool.eq_false_iff.2 fun e => by have := hgt.2 e; omega
    rw [z1, fr, this]; rfl
   ·rw [z1]; exact z2
 ·have hown : zv a = a := by unfold zv; rw [c]; rfl
  have hlt : Zz (a.length : Int) (a.length : Int) = zE a := by rw [c, Bool.eq_false_iff, Ne, zm]; omega
  rw [hown] at F
  have hlo : a.length ≤ a.length := Nat.le_refl _
  have hgt : (a.length : Int) < (a.length : Int) ↔ zE a = true := by rw [← hlt, zm]
  refine ⟨by omega, ?_⟩
  rw [hlt]
  refine zT.2 ⟨fun k => ?_, fun k => bad (F.f0 k)⟩
  refine vv (by cases zE a <;> rfl) ?_
  have hb1 := rb _ k
  refine zT.2 ⟨fun k2 => bad (F.f5 k (by simpa using k2)), fun k2 => ⟨zT.2 ⟨fun k3 => ?_, fun k3 => ?_⟩, fun z hz => ?_⟩⟩
  ·have k4 : zK a ≠ [] := by simpa using k3
   have k5 : 0 < (zK a).length := Nat.pos_of_ne_zero fun e => k4 (List.eq_nil_of_length_eq_zero e)
   have k6 : (zK a).length ≤ a.length := by
    obtain ⟨_, _, h3, _⟩ := yd k
    have := congrArg List.length h3
    rw [List.length_append] at this
    omega
   refine ⟨⟨by omega, by omega⟩, fun hne => bad (F.f3 k k4 hne), fun he => ⟨⟨by omega, by omega⟩, by rw [List.length_drop]; omega, zT.2 ⟨fun k7 => ?_, fun k7 => ?_⟩⟩⟩
   ·obtain ⟨i1, i2, i3⟩ := F.f7 k k4 he k7
    refine ⟨fun _ => hb1, fun _ => rb _ k7, zT.2 ⟨fun k8 => bad (Bool.eq_false_iff.2 fun hb => ?_), fun k8 => ?_⟩⟩
    ·obtain ⟨j1, j2, j3, j4⟩ := i1.1 hb
     rw [j2, j4, show Zz (zG ((zK a).drop 1)) 2 = false from Bool.eq_false_iff.2 fun e => by have := (zm _ _).1 e; omega] at k8
     cases k8
    ·have hb : zZ a = true := i1.2 (by
      rw [Bool.or_eq_false_iff, Bool.or_eq_false_iff] at k8
      obtain ⟨⟨q1, q2⟩, q3⟩ := k8
      refine ⟨by simpa using k2, by simpa using q1, ?_, by simpa using q3⟩
      refine Decidable.byContradiction fun hn => ?_
      rw [(zm _ _).2 (by omega)] at q2
      cases q2)
     exact ⟨_, ⟨hb, (i3 hb).symm, i2⟩, rfl⟩
   ·exact ⟨fun h => by simp at h, fun h => by simp at h, bad (F.f6 k k4 he k7)⟩
  ·have k4 : zK a = [] := by simpa using k3
   obtain ⟨i1, i2, i3⟩ := F.f2 k k4
   have k2' : (zE a && zG a == 0) = false := k2
   have hb : zZ a = true := by rw [i1, k2']; rfl
   exact ⟨1, ⟨hb, by rw [i3]; rfl, i2⟩, rfl⟩
  ·obtain ⟨z1, z2, z3⟩ := hz
   have fr := F.fr
   rw [← z3] at fr
   refine ⟨fun hh => ⟨⟨by omega, by omega⟩, rfl, ⟨?_, ?_⟩, z1.symm⟩, fun hh => ⟨rfl, ⟨?_, ?_⟩, z1.symm⟩⟩
   ·rw [z1, fr, hgt.1 hh]; rfl
   ·rw [z1]; exact z2
   ·have : zE a = false := Bool.eq_false_iff.2 fun e => by have := hgt.2 e; omega
    rw [z1, fr, this]; rfl
   ·rw [z1]; exact z2
theorem Si (a : List UInt8) (hl : a.length ≤ 9223372036854775807) : zV Tryz.prog [] 65 [.str a] (.tup 2 (zY [.agg 2 (zY [.i (bif zZ a then zU a else 0), .i (bif zZ a then (zS a : Int) else 0)]), .b (zZ a)])) :=
 zW (T := Pi) (an := Rx a) mixed Tp (Eq.mp (by kernel_rfl) (R1 a hl))
theorem QU : zn Tryz.prog [] 65 Uh := by
 intro xs ps r h hp
 unfold Uh at h
 split at h
 ·skip
  rename_i a
  cases h
  obtain ⟨q0, -⟩ := Zr hp
  exact weaken (ys := [.str a]) ⟨zX _, trivial⟩ (Si a q0)
 ·cases h
end Go.Te
