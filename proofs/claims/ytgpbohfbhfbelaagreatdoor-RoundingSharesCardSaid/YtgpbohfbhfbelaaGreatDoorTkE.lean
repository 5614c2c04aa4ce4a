/- rational: nativeOf. -/
import Derived.Test.YtgpbohfbhfbelaaGreatDoorTkS
set_option linter.unusedSimpArgs false
set_option linter.unusedVariables false
namespace Go.Te
open Go Go.Sx Go.Proofs Go.Ar
set_option maxRecDepth 100000
set_option maxHeartbeats 4000000
def zC (a : zj) : Bool := zH a == 0 && leB ((zm (zp a)).length : Int) 8 && leB ((z6 (zp a)).length : Int) 8
theorem UE (s : zj) : Wz s ++ s.drop (Wz s).length = s := by
 have h : s = s.takeWhile Zd ++ s.dropWhile Zd := (List.takeWhile_append_dropWhile).symm
 have gen : ∀ t u : zj, t ++ u = s → s.drop t.length = u := by
  rintro t u rfl
  exact List.drop_left
 have h2 : s.drop (Wz s).length = s.dropWhile Zd := gen _ _ h.symm
 rw [h2]
 exact h.symm
theorem Ln (s : zj) : ∀ c ∈ Wz s, Zd c = true := fun c hc => List.all_eq_true.1 (List.all_takeWhile (l := s) (p := Zd)) c hc
theorem wR {s : zj} : yy s = true ↔ Z6 (Wz s) = true ∧ (Wz s).length ≤ 8 := by
 unfold yy
 rw [Bool.and_eq_true, z8]
 exact ⟨fun h => ⟨h.1, by omega⟩, fun h => ⟨h.1, by omega⟩⟩
theorem XQ {s : zj} (h : yy s = true) : ZV s = (zc (Wz s) : Int) ∧ Zz s = s.drop (Wz s).length ∧ Wz s ++ Zz s = s ∧ 0 ≤ ZV s ∧ ZV s ≤ 99999999 := by
 have e1 : ZV s = (zc (Wz s) : Int) := by unfold ZV; rw [h]; rfl
 have e2 : Zz s = s.drop (Wz s).length := by unfold Zz; rw [h]; rfl
 obtain ⟨h1, h2⟩ := wR.1 h
 have b := vH h1 (k := 8) h2
 rw [show 10 ^ 8 = 100000000 from by decide] at b
 exact ⟨e1, e2, by rw [e2]; exact UE s, by omega, by omega⟩
theorem RZ {s : zj} (h : Z6 s = true) : Wz s = s := by
 have := rC (a := s) (b := []) (Zt.1 h).2.1
 rw [List.append_nil] at this
 rw [this]
 show s ++ [] = s
 simp
theorem R5 {s : zj} (h : Z6 s = true) (hl : s.length ≤ 8) : yy s = true ∧ ZV s = (zc s : Int) ∧ Zz s = [] := by
 have ht := RZ h
 have ho : yy s = true := wR.2 (by rw [ht]; exact ⟨h, hl⟩)
 obtain ⟨n1, n2, _⟩ := XQ ho
 rw [ht] at n1 n2
 exact ⟨ho, n1, by rw [n2]; simp⟩
theorem tX {s : zj} (h : yy s = true) (hr : Zz s = []) : Z6 s = true ∧ s.length ≤ 8 ∧ ZV s = (zc s : Int) := by
 obtain ⟨n1, n2, n3, _⟩ := XQ h
 rw [hr, List.append_nil] at n3
 obtain ⟨h1, h2⟩ := wR.1 h
 rw [n3] at h1 h2 n1
 exact ⟨h1, h2, n1⟩
theorem wZ {a : zj} : zC a = true ↔ WF a = true ∧ (zm (zp a)).length ≤ 8 ∧ (z6 (zp a)).length ≤ 8 ∧ (zg (zp a) = true → Nat.gcd (zc (zm (zp a))) (zc (z6 (zp a))) = 1) := by
 unfold zC
 rw [Bool.and_eq_true, Bool.and_eq_true, z8, z8, beq_iff_eq]
 constructor
 ·rintro ⟨⟨h1, h2⟩, h3⟩
  cases hf : WF a with
  | false => rw [RE hf] at h1; cases h1
  | true =>
   refine ⟨rfl, by omega, by omega, fun hs => ?_⟩
   rw [Tp hf ⟨by omega, by omega⟩ hs] at h1
   cases hg : Nat.beq (Nat.gcd (zc (zm (zp a))) (zc (z6 (zp a)))) 1 with
   | true => exact Nat.eq_of_beq_eq_true hg
   | false => rw [hg] at h1; cases h1
 ·rintro ⟨h1, h2, h3, h4⟩
  refine ⟨⟨?_, by omega⟩, by omega⟩
  cases hs : zg (zp a) with
  | false => exact qe h1 (by omega) hs
  | true =>
   rw [Tp h1 ⟨by omega, by omega⟩ hs, h4 hs]
   rfl
theorem xE {a : zj} : WF a = true ↔ Z6 (zm (zp a)) = true ∧ ¬ (zJ a = true ∧ zm (zp a) = [48]) ∧ (zg (zp a) = true → Z6 (z6 (zp a)) = true ∧ z6 (zp a) ≠ [48] ∧ z6 (zp a) ≠ [49]) := by
 unfold WF
 rw [Bool.and_eq_true, Bool.and_eq_true, Bool.not_eq_true', Bool.and_eq_false_iff, Bool.or_eq_true, Bool.and_eq_true, Bool.and_eq_true, Bool.not_eq_true', Bool.not_eq_true', Bool.not_eq_true', beq_eq_false_iff_ne, beq_eq_false_iff_ne, beq_eq_false_iff_ne]
 constructor
 ·rintro ⟨⟨h1, h2⟩, h3⟩
  refine ⟨h1, fun h => ?_, fun h => ?_⟩
  ·rcases h2 with h2 | h2
   ·rw [h.1] at h2; cases h2
   ·exact h2 h.2
  ·rcases h3 with h3 | h3
   ·rw [h] at h3; cases h3
   ·exact ⟨h3.1.1, h3.1.2, h3.2⟩
 ·rintro ⟨h1, h2, h3⟩
  refine ⟨⟨h1, ?_⟩, ?_⟩
  ·cases hm : zJ a with
   | false => exact .inl rfl
   | true => exact .inr fun e => h2 ⟨hm, e⟩
  ·cases hs : zg (zp a) with
   | false => exact .inl rfl
   | true => have := h3 hs; exact .inr ⟨⟨this.1, this.2.1⟩, this.2.2⟩
theorem O5 {s : zj} (h : Z6 s = true) : zc s = 0 ↔ s = [48] := ⟨fun e => uS h e, fun e => by rw [e]; decide⟩
theorem fX {s : zj} (h : Z6 s = true) : zc s = 1 ↔ s = [49] := ⟨fun e => by
 have := ZG h
 rw [e, ZZ (by omega)] at this
 exact this.symm, fun e => by rw [e]; decide⟩
structure NF (a o : zj) : Prop where
 f0 : yy o = false → zC a = false
 f1 : yy o = true → 0 ≤ ZV o ∧ ZV o ≤ 99999999
 f2 : yy o = true → Zz o = [] → zC a = !(zJ a && ZV o == 0) ∧ ZV o = (zc (zm (zp a)) : Int) ∧ zo a = 1
 f3 : yy o = true → Zz o ≠ [] → (Zz o).getD 0 0 ≠ 47 → zC a = false
 f5 : yy o = true → (zJ a && ZV o == 0) = true → zC a = false
 f6 : yy o = true → Zz o ≠ [] → (Zz o).getD 0 0 = 47 → yy ((Zz o).drop 1) = false → zC a = false
 f7 : yy o = true → Zz o ≠ [] → (Zz o).getD 0 0 = 47 → yy ((Zz o).drop 1) = true →
  (zC a = true ↔ (zJ a && ZV o == 0) = false ∧ Zz ((Zz o).drop 1) = [] ∧ 2 ≤ ZV ((Zz o).drop 1) ∧ Wo (ZV o) (ZV ((Zz o).drop 1)) = 1) ∧ ZV o = (zc (zm (zp a)) : Int) ∧ (zC a = true → (zo a : Int) = ZV ((Zz o).drop 1))
 fr : zL a = bif zJ a then -(zc (zm (zp a)) : Int) else (zc (zm (zp a)) : Int)
theorem rx {a : zj} (h : zC a = true) : yy (zp a) = true ∧ ZV (zp a) = (zc (zm (zp a)) : Int) ∧ Zz (zp a) = (bif zg (zp a) then 47 :: z6 (zp a) else []) := by
 obtain ⟨h1, h2, h3, h4⟩ := wZ.1 h
 obtain ⟨g1, g2, g3⟩ := xE.1 h1
 have ht : Wz (zp a) = zm (zp a) ∧ (zp a).drop (zm (zp a)).length = (bif zg (zp a) then 47 :: z6 (zp a) else []) := by
  cases hs : zg (zp a) with
  | false =>
   obtain ⟨c1, c2⟩ := Xm hs
   rw [c1] at g1 ⊢
   exact ⟨RZ g1, by simp⟩
  | true =>
   have he := ue hs
   have e1 : Wz (zp a) = zm (zp a) := by
    conv => lhs; rw [he]
    rw [rC (Zt.1 g1).2.1]
    show zm (zp a) ++ [] = _
    rw [List.append_nil]
   refine ⟨e1, ?_⟩
   conv => lhs; arg 2; rw [he]
   rw [List.drop_left]
   rfl
 have ho : yy (zp a) = true := wR.2 (by rw [ht.1]; exact ⟨g1, h2⟩)
 obtain ⟨n1, n2, _⟩ := XQ ho
 rw [ht.1] at n1 n2
 exact ⟨ho, n1, by rw [n2, ht.2]⟩
theorem rG {a : zj} : zL a = (bif zJ a then -(zc (zm (zp a)) : Int) else (zc (zm (zp a)) : Int)) ∧ zo a = (bif zg (zp a) then zc (z6 (zp a)) else 1) := by
 obtain ⟨_, _, _, _, _, h6, h7⟩ := Y1 a
 exact ⟨h6, h7⟩
theorem nf (a : zj) : NF a (zp a) := by
 obtain ⟨r1, r2⟩ := rG (a := a)
 have neg : yy (zp a) = true → (zJ a && ZV (zp a) == 0) = true → zC a = false := fun h hz => Bool.eq_false_iff.2 fun hb => by
  obtain ⟨_, n1, _⟩ := rx hb
  obtain ⟨h1, _⟩ := wZ.1 hb
  obtain ⟨g1, g2, _⟩ := xE.1 h1
  rw [Bool.and_eq_true, beq_iff_eq, n1] at hz
  exact g2 ⟨hz.1, (O5 g1).1 (by omega)⟩
 have sm : yy (zp a) = true → Zz (zp a) ≠ [] → (Zz (zp a)).getD 0 0 = 47 → zm (zp a) = Wz (zp a) ∧ z6 (zp a) = (Zz (zp a)).drop 1 ∧ zg (zp a) = true := fun h h1 h2 => by
  obtain ⟨n1, n2, n3, _⟩ := XQ h
  have e : Zz (zp a) = 47 :: (Zz (zp a)).drop 1 := by
   match Zz (zp a), h1, h2 with
   | c :: r, _, h2 => rw [show c = 47 from h2]; rfl
  rw [e] at n3
  have := tB (a := Wz (zp a)) (b := (Zz (zp a)).drop 1) fun c hc => te (Ln _ c hc)
  rw [n3] at this
  exact this
 refine ⟨fun h => Bool.eq_false_iff.2 fun hb => ?_, fun h => (XQ h).2.2.2, fun h h1 => ?_, fun h h1 h2 => Bool.eq_false_iff.2 fun hb => ?_, neg, fun h h1 h2 h3 => Bool.eq_false_iff.2 fun hb => ?_, fun h h1 h2 h3 => ?_, r1⟩
 ·rw [(rx hb).1] at h; cases h
 ·obtain ⟨b1, b2, b3⟩ := tX h h1
  obtain ⟨c1, c2, c3⟩ := lD (s := zp a) fun i hi e => by
   have := (Zt.1 b1).2.1 _ (Wj (s := zp a) (i := i) hi)
   rw [e] at this
   cases this
  rw [c2, r2, c1]
  refine ⟨?_, b3, rfl⟩
  rw [Bool.eq_iff_iff, wZ, xE, c1, c2, c3, Bool.not_eq_true', b3]
  constructor
  ·rintro ⟨⟨_, g2, _⟩, _⟩
   rw [Bool.and_eq_false_iff]
   cases hm : zJ a with
   | false => exact .inl rfl
   | true => exact .inr (beq_eq_false_iff_ne.2 fun e => g2 ⟨hm, (O5 b1).1 (by omega)⟩)
  ·intro g
   refine ⟨⟨b1, fun g2 => ?_, fun e => by cases e⟩, b2, by simp, fun e => by cases e⟩
   rw [g2.1, g2.2] at g
   cases g
 ·have := (rx hb).2.2
  rw [this] at h1 h2
  cases hs : zg (zp a) with
  | false => rw [hs] at h1; exact h1 rfl
  | true => rw [hs] at h2; exact h2 rfl
 ·obtain ⟨c1, c2, c3⟩ := sm h h1 h2
  obtain ⟨k1, k2, k3, _⟩ := wZ.1 hb
  have d1 := (xE.1 k1).2.2 c3
  rw [c2] at d1 k3
  rw [(R5 d1.1 k3).1] at h3
  cases h3
 ·obtain ⟨c1, c2, c3⟩ := sm h h1 h2
  obtain ⟨n1, _, _, _⟩ := XQ h
  obtain ⟨o1, o2⟩ := wR.1 h
  rw [c1, r2, c3, c2]
  obtain ⟨m1, _, _, m4, m5⟩ := XQ h3
  have hgO : Wo (ZV (zp a)) (ZV ((Zz (zp a)).drop 1)) = (Nat.gcd (ZV (zp a)).toNat (ZV ((Zz (zp a)).drop 1)).toNat : Int) := by
   unfold Wo
   rw [(z8 _ _).2 (XQ h).2.2.2.1, (z8 _ _).2 m4]
   rfl
  have key : zC a = true ↔ (zJ a && ZV (zp a) == 0) = false ∧ Zz ((Zz (zp a)).drop 1) = [] ∧ 2 ≤ ZV ((Zz (zp a)).drop 1) ∧ Wo (ZV (zp a)) (ZV ((Zz (zp a)).drop 1)) = 1 := by
   rw [wZ, xE, c1, c2, c3, hgO]
   constructor
   ·rintro ⟨⟨_, g2, g3⟩, g4, g5, g6⟩
    obtain ⟨g7, g8, g9⟩ := g3 rfl
    obtain ⟨q1, q2, q3⟩ := R5 g7 g5
    have z0 : zc ((Zz (zp a)).drop 1) ≠ 0 := fun e => g8 ((O5 g7).1 e)
    have z1 : zc ((Zz (zp a)).drop 1) ≠ 1 := fun e => g9 ((fX g7).1 e)
    refine ⟨?_, q3, by omega, ?_⟩
    ·rw [Bool.and_eq_false_iff]
     cases hm : zJ a with
     | false => exact .inl rfl
     | true => exact .inr (beq_eq_false_iff_ne.2 fun e => g2 ⟨hm, (O5 o1).1 (by omega)⟩)
    ·rw [n1, q2, Int.toNat_natCast, Int.toNat_natCast, g6 rfl]; rfl
   ·rintro ⟨g1, g2, g3, g4⟩
    obtain ⟨q1, q2, q3⟩ := tX h3 g2
    have z0 : zc ((Zz (zp a)).drop 1) ≠ 0 := by omega
    have z1 : zc ((Zz (zp a)).drop 1) ≠ 1 := by omega
    refine ⟨⟨o1, fun e => ?_, fun _ => ⟨q1, fun e => z0 ((O5 q1).2 e), fun e => z1 ((fX q1).2 e)⟩⟩, o2, q2, fun _ => ?_⟩
    ·rw [e.1, n1, (O5 o1).2 e.2] at g1
     cases g1
    ·rw [n1, q3, Int.toNat_natCast, Int.toNat_natCast] at g4
     omega
  refine ⟨key, n1, fun hb => ?_⟩
  obtain ⟨_, g2, _⟩ := key.1 hb
  obtain ⟨q1, q2, q3⟩ := tX h3 g2
  rw [q3]
  rfl
noncomputable def eM : Tb := (T0.plus 79 RQ).plus 80 S5
theorem Od : zz Tryz.prog eM := zz.plus (zz.plus zr K4) Ng
def kj (a : zj) (x y : yV) : yV := .join Int (fun σ _ => [(0, σ.tm 0), (2, σ.tm 2), (4, σ.tm 4), (5, σ.tm 5), (8, σ.tm 8)]) (fun σ z => [(1, .box 60 2 (zw [σ.tm 5, .i z]))]) 0
 (fun σ z => zC a = true ∧ z = (zo a : Int) ∧ AV.int (σ.tm 5) = (zc (zm (zp a)) : Int)) x y
def K7 (a : zj) : yV := .two .auto (.two .auto (.two .auto (.two .auto (.split 7 .auto (.two .auto (kj a (.two .auto (.two (.two .auto (.two .auto (.split 7 .auto .auto))) .auto)) .auto))))))
def v7 : List AV → Option (List zN × AV)
 | [.str a] => some ([.p (a.length ≤ 9223372036854775807)], .tup 2 (zw [.agg 2 (zw [.i (bif zC a then zL a else 0), .i (bif zC a then (zo a : Int) else 0)]), .b (zC a)]))
 | _ => none
theorem Kc (a : List UInt8) (hl : a.length ≤ 9223372036854775807) :
 let q1 := (!zS true !a == bA #[] || zS true !a == bA #[]); let q2 := (zM (lZ (List.drop 1 a)) (lZ a)); let q4 := (True ∧ 2 = 2 ∧ (kI ∧ iZ = bif zC a then zL a else iZ) ∧ kI ∧ iZ = bif zC a then (cI (zo a)) else iZ); let q3 := (j2 ∧ q4 ∧ false = zC a); let q5 := (lZ (Zz (List.drop 1 a))); let q7 := (bif !true then true else !Zz (List.drop 1 (Zz
 (List.drop 1 a))) == bA #[]); let q6 := (!zS false q7 || zS false q7); let q10 := (ZV (List.drop 1 (Zz (List.drop 1 a)))); let q9 := (bif bif !true then true else !Zz (List.drop 1 (Zz (List.drop 1 a))) == bA #[] then true else zM q10 (2 : Int)); let q8 := (!zS false q9 || zS false q9); let q11 := (aI (ZV (List.drop 1 a))); let q12 := (kI ∧ ZV (List.drop 1 a) = ZV (List.drop 1 a)); let q13 := (60 = 60 ∧ 2 = 2 ∧ (kI ∧ iZ = iZ)
 ∧ kI ∧ iZ = iZ); let q14 := (bif bif !false then true else !Zz (List.drop 1 (Zz (List.drop 1 a))) == bA #[] then true else zM q10 (2 : Int)); let q15 := (zM (lZ a) (lZ a)); let q17 := (bif !true then true else !Zz (List.drop 1 (Zz a)) == bA #[]); let q16 := (!zS false q17 || zS false q17); let q19 := (bif bif !true then true else !Zz (List.drop 1 (Zz a)) == bA #[] then true else zM (ZV
 (List.drop 1 (Zz a))) (2 : Int)); let q18 := (!zS false q19 || zS false q19); let q20 := (bif bif !false then true else !Zz (List.drop 1 (Zz a)) == bA #[] then true else zM (ZV (List.drop 1 (Zz a))) (2 : Int)); zB [AV.str a] → bF q1 (bF (!zS true !a == bA #[] || DB.db (iZ ≤ iZ ∧ iZ < (lZ a))) (bF q1 (bF (!!a == bA #[] || zS true !a == bA #[]) (zZ (bif
 !a == bA #[] then (cI (UInt8.toNat (gD a 0 (0 : UInt8)))) == (45 : Int) else false) (bF (DB.db (iZ ≤ iO ∧ iO ≤ (lZ a))) (lN (List.drop 1 a) ≤ nX ∧ zZ (yy (List.drop 1 a)) (bF (!(zS false !true && zS true q2) || zS false !true && zS true q2) (bF (!zS false !true || (!zM (lZ (List.drop 1 a)) (lZ a) || zS false !true && zS true q2)) (zZ (bif !true then true else bif zM (lZ (List.drop 1 a))
 (lZ a) then ZV (List.drop 1 a) == iZ else false) q3 (zZ (!Zz (List.drop 1 a) == bA #[]) (bF (DB.db (iZ ≤ iZ ∧ iZ < q5)) (zZ ((cI (UInt8.toNat (gD (Zz (List.drop 1 a)) 0 (0 : UInt8)))) != (47 : Int)) q3 (bF (DB.db (iZ ≤ iO ∧ iO ≤ q5)) (lN (List.drop 1 (Zz (List.drop 1 a))) ≤ nX ∧ zZ (yy (List.drop 1 (Zz (List.drop 1 a)))) (bF q6 (bF q6 (bF ((!!bif !true then true else !Zz (List.drop 1 (Zz (List.drop 1
 a))) == bA #[]) || zS false q7) (bF q8 (bF q8 (bF q8 ((zS false q9 = true → iZ ≤ ZV (List.drop 1 a) ∧ ZV (List.drop 1 a) ≤ iX) ∧ (zS false q9 = true → iZ ≤ ZV (List.drop 1 (Zz (List.drop 1 a))) ∧ ZV (List.drop 1 (Zz (List.drop 1 a))) ≤ iX) ∧ bF q8 (bF ((!!bif bif !true then true else !Zz (List.drop 1 (Zz (List.drop 1 a))) == bA #[] then true else zM q10 (2 : Int)) || zS false q9) (zZ (bif bif bif
 !true then true else !Zz (List.drop 1 (Zz (List.drop 1 a))) == bA #[] then true else zM q10 (2 : Int) then true else Wo (ZV (List.drop 1 a)) q10 != iO) q3 (∃ (z : Int), ((zC a = true ∧ z = (cI (zo a)) ∧ AV.int q11 = (cI (zc (zm (zp a))))) ∧ a = a ∧ (nat_lit 0 = 0 ∧ 0 = 0) ∧ List.drop 1 a = List.drop 1 a ∧ q12 ∧ nat_lit 1 = 1 ∧ 0 = 0) ∧ q13 ∧ (60 : TypeId) = 60 ∧ 2 = 2 ∧ q12 ∧ kI ∧ ZV (List.drop 1 (Zz (List.drop 1 a))) = z)))))))))) ((zS false q14 =
 true → iZ ≤ ZV (List.drop 1 a) ∧ ZV (List.drop 1 a) ≤ iX) ∧ (zS false q14 = true → iZ ≤ ZV (List.drop 1 (Zz (List.drop 1 a))) ∧ ZV (List.drop 1 (Zz (List.drop 1 a))) ≤ iX) ∧ j2 ∧ q4 ∧ false = zC a))))) (∃ (z : Int), ((zC a = true ∧ z = (cI (zo a)) ∧ AV.int q11 = (cI (zc (zm (zp a))))) ∧ a = a ∧ (nat_lit 0 = 0 ∧ 0 = 0) ∧ List.drop 1 a = List.drop 1 a ∧ q12 ∧ nat_lit 1 = 1 ∧ 0 = 0) ∧ q13 ∧ (60 : TypeId) = 60 ∧ 2 = 2 ∧ q12 ∧ kI ∧ iO =
 z) ∧ ∀ (z : Int), zC a = true ∧ z = (cI (zo a)) ∧ AV.int q11 = (cI (zc (zm (zp a)))) → zZ q2 (bF (dK (-ZV (List.drop 1 a))) (j2 ∧ (True ∧ 2 = 2 ∧ (kI ∧ -ZV (List.drop 1 a) = bif zC a then zL a else iZ) ∧ kI ∧ z = bif zC a then (cI (zo a)) else iZ) ∧ true = zC a)) (j2 ∧ (True ∧ 2 = 2 ∧ (kI ∧ ZV (List.drop 1 a) = bif zC a then zL a else iZ) ∧ kI ∧ z = bif zC a then (↑(zo a) :
 Int) else iZ) ∧ true = zC a))))) q3)) (lN a ≤ nX ∧ zZ (yy a) (bF (!(zS false !true && zS true q15) || zS false !true && zS true q15) (bF (!zS false !true || (!zM (lZ a) (lZ a) || zS false !true && zS true q15)) (zZ (bif !true then true else bif zM (lZ a) (lZ a) then ZV a == iZ else false) q3 (zZ (!Zz a == bA #[]) (bF (DB.db (iZ ≤ iZ ∧ iZ < (cI (List.length
 (Zz a))))) (zZ ((cI (UInt8.toNat (gD (Zz a) 0 (0 : UInt8)))) != (47 : Int)) q3 (bF (DB.db (iZ ≤ iO ∧ iO ≤ (lZ (Zz a)))) (lN (List.drop 1 (Zz a)) ≤ nX ∧ zZ (yy (List.drop 1 (Zz a))) (bF q16 (bF q16 (bF ((!!bif !true then true else !Zz (List.drop 1 (Zz a)) == bA #[]) || zS false q17) (bF q18 (bF q18 (bF q18 ((zS false q19 = true → iZ ≤ ZV a ∧ ZV a ≤ iX) ∧ (zS false q19 = true → (0
 : Int) ≤ ZV (List.drop 1 (Zz a)) ∧ ZV (List.drop 1 (Zz a)) ≤ iX) ∧ bF q18 (bF ((!!bif bif !true then true else !Zz (List.drop 1 (Zz a)) == bA #[] then true else zM (ZV (List.drop 1 (Zz a))) (2 : Int)) || zS false q19) (zZ (bif bif bif !true then true else !Zz (List.drop 1 (Zz a)) == bA #[] then true else zM (ZV (List.drop 1 (Zz a))) (2 : Int) then true else Wo (ZV a) (ZV (List.drop 1 (Zz a))) != iO) q3 (∃ (z : Int), ((zC a = true ∧
 z = (cI (zo a)) ∧ AV.int (aI (ZV a)) = (cI (zc (zm (zp a))))) ∧ a = a ∧ (nat_lit 0 = 0 ∧ 0 = 0) ∧ a = a ∧ (kI ∧ ZV a = ZV a) ∧ nat_lit 1 = 1 ∧ 0 = 0) ∧ q13 ∧ (60 : TypeId) = 60 ∧ 2 = 2 ∧ (kI ∧ ZV a = ZV a) ∧ kI ∧ ZV (List.drop 1 (Zz a)) = z)))))))))) ((zS false q20 = true → iZ ≤ ZV a ∧ ZV a ≤ iX) ∧ (zS false q20 = true → iZ ≤ ZV (List.drop 1 (Zz a)) ∧ ZV (List.drop 1 (Zz a)) ≤ (9223372036854775807
 : Int)) ∧ j2 ∧ q4 ∧ false = zC a))))) (∃ (z : Int), ((zC a = true ∧ z = (cI (zo a)) ∧ AV.int (aI (ZV a)) = (cI (zc (zm (zp a))))) ∧ a = a ∧ (nat_lit 0 = 0 ∧ 0 = 0) ∧ a = a ∧ (kI ∧ ZV a = ZV a) ∧ nat_lit 1 = 1 ∧ 0 = 0) ∧ q13 ∧ (60 : TypeId) = 60 ∧ 2 = 2 ∧ (kI ∧ ZV a = ZV a) ∧ kI ∧ iO = z) ∧ ∀ (z : Int), zC a = true ∧ z = (cI (zo a)) ∧ AV.int (aI (ZV a)) = (cI (zc (zm (zp a)))) → zZ q15 (bF (DB.db (ZB
 .i64 (-ZV a))) (j2 ∧ (True ∧ 2 = 2 ∧ (kI ∧ -ZV a = bif zC a then zL a else iZ) ∧ kI ∧ z = bif zC a then (cI (zo a)) else iZ) ∧ true = zC a)) (j2 ∧ (True ∧ 2 = 2 ∧ (kI ∧ ZV a = bif zC a then zL a else iZ) ∧ kI ∧ z = bif zC a then (cI (zo a)) else iZ) ∧ true = zC a))))) q3))))) := by
 delta bF dK bA nX cI kI j2 lZ lN gD iZ iO iX aI
 dsimp only
 intro hb
 simp only [sS, dS, xJ]
 have em : (!(a == []) && ((a.getD 0 0).toNat : Int) == 45) = zJ a := by
  rw [show (((a.getD 0 0).toNat : Int) == 45) = (a.getD 0 0 == 45) from Vf (a.getD 0 0) 45 (by decide)]
  unfold zJ
  match a with
  | [] => rfl
  | c :: r => simp
 have e47 : ∀ c : UInt8, ((c.toNat : Int) = 47) ↔ c = 47 := fun c => by
  have := Vf c 47 (by decide)
  rw [Bool.eq_iff_iff, beq_iff_eq, beq_iff_eq] at this
  exact this
 have bad : zC a = false → 2 = [AV.junk, AV.junk].length ∧ ((0 = bif zC a then zL a else 0) ∧ 0 = bif zC a then (zo a : Int) else 0) ∧ false = zC a := fun h => by rw [h]; exact ⟨rfl, ⟨rfl, rfl⟩, rfl⟩
 have rb : ∀ s : zj, yy s = true → 0 ≤ ZV s ∧ ZV s ≤ 9223372036854775807 := fun s h => by have := (XQ h).2.2.2; omega
 have F := nf a
 rw [em]
 simp only [e47, ne_eq]
 have hpos : (!(a == [])) = true → 0 < a.length := fun h => by
  match a, h with
  | c :: r, _ => simp
 refine ⟨fun h => ⟨Int.le_refl _, by have := hpos h; omega⟩, zY.2 ⟨fun c => ?_, fun c => ?_⟩⟩
 ·have hown : zp a = a.drop 1 := by unfold zp; rw [c]; rfl
  have hl1 := (pM c).2
  have hlt : zM ((a.drop 1).length : Int) (a.length : Int) = zJ a := by rw [c, zq, List.length_drop]; omega
  rw [hown] at F
  refine ⟨⟨by omega, by omega⟩, by rw [List.length_drop]; omega, ?_⟩
  generalize ho : a.drop 1 = o at *
  have hlo : o.length ≤ a.length := by rw [← ho, List.length_drop]; omega
  have hgt : (o.length : Int) < (a.length : Int) ↔ zJ a = true := by rw [← hlt, zq]
  rw [hlt]
  refine zY.2 ⟨fun k => ?_, fun k => bad (F.f0 k)⟩
  refine Tq (by cases zJ a <;> rfl) ?_
  have hb1 := rb _ k
  refine zY.2 ⟨fun k2 => bad (F.f5 k (by simpa using k2)), fun k2 => ⟨zY.2 ⟨fun k3 => ?_, fun k3 => ?_⟩, fun z hz => ?_⟩⟩
  ·have k4 : Zz o ≠ [] := by simpa using k3
   have k5 : 0 < (Zz o).length := Nat.pos_of_ne_zero fun e => k4 (List.eq_nil_of_length_eq_zero e)
   have k6 : (Zz o).length ≤ o.length := by
    obtain ⟨_, _, h3, _⟩ := XQ k
    have := congrArg List.length h3
    rw [List.length_append] at this
    omega
   refine ⟨⟨by omega, by omega⟩, fun hne => bad (F.f3 k k4 hne), fun he => ⟨⟨by omega, by omega⟩, by rw [List.length_drop]; omega, zY.2 ⟨fun k7 => ?_, fun k7 => ?_⟩⟩⟩
   ·obtain ⟨i1, i2, i3⟩ := F.f7 k k4 he k7
    refine ⟨fun _ => hb1, fun _ => rb _ k7, zY.2 ⟨fun k8 => bad (Bool.eq_false_iff.2 fun hb => ?_), fun k8 => ?_⟩⟩
    ·obtain ⟨j1, j2, j3, j4⟩ := i1.1 hb
     rw [j2, j4, show zM (ZV ((Zz o).drop 1)) 2 = false from Bool.eq_false_iff.2 fun e => by have := (zq _ _).1 e; omega] at k8
     cases k8
    ·have hb : zC a = true := i1.2 (by
      rw [Bool.or_eq_false_iff, Bool.or_eq_false_iff] at k8
      obtain ⟨⟨q1, q2⟩, q3⟩ := k8
      refine ⟨by simpa using k2, by simpa using q1, ?_, by simpa using q3⟩
      refine Decidable.byContradiction fun hn => ?_
      rw [(zq _ _).2 (by omega)] at q2
      cases q2)
     exact ⟨_, ⟨hb, (i3 hb).symm, i2⟩, rfl⟩
   ·exact ⟨fun h => by simp at h, fun h => by simp at h, bad (F.f6 k k4 he k7)⟩
  ·have k4 : Zz o = [] := by simpa using k3
   obtain ⟨i1, i2, i3⟩ := F.f2 k k4
   have k2' : (zJ a && ZV o == 0) = false := k2
   have hb : zC a = true := by rw [i1, k2']; rfl
   exact ⟨1, ⟨hb, by rw [i3]; rfl, i2⟩, rfl⟩
  ·obtain ⟨z1, z2, z3⟩ := hz
   have fr := F.fr
   rw [← z3] at fr
   refine ⟨fun hh => ⟨⟨by omega, by omega⟩, rfl, ⟨?_, ?_⟩, z1.symm⟩, fun hh => ⟨rfl, ⟨?_, ?_⟩, z1.symm⟩⟩
   ·rw [z1, fr, hgt.1 hh]; rfl
   ·rw [z1]; exact z2
   ·have : zJ a = false := Bool.eq_false_iff.2 fun e => by have := hgt.2 e; omega
    rw [z1, fr, this]; rfl
   ·rw [z1]; exact z2
 ·have hown : zp a = a := by unfold zp; rw [c]; rfl
  have hlt : zM (a.length : Int) (a.length : Int) = zJ a := by rw [c, Bool.eq_false_iff, Ne, zq]; omega
  rw [hown] at F
  have hlo : a.length ≤ a.length := Nat.le_refl _
  have hgt : (a.length : Int) < (a.length : Int) ↔ zJ a = true := by rw [← hlt, zq]
  refine ⟨by omega, ?_⟩
  rw [hlt]
  refine zY.2 ⟨fun k => ?_, fun k => bad (F.f0 k)⟩
  refine Tq (by cases zJ a <;> rfl) ?_
  have hb1 := rb _ k
  refine zY.2 ⟨fun k2 => bad (F.f5 k (by simpa using k2)), fun k2 => ⟨zY.2 ⟨fun k3 => ?_, fun k3 => ?_⟩, fun z hz => ?_⟩⟩
  ·have k4 : Zz a ≠ [] := by simpa using k3
   have k5 : 0 < (Zz a).length := Nat.pos_of_ne_zero fun e => k4 (List.eq_nil_of_length_eq_zero e)
   have k6 : (Zz a).length ≤ a.length := by
    obtain ⟨_, _, h3, _⟩ := XQ k
    have := congrArg List.length h3
    rw [List.length_append] at this
    omega
   refine ⟨⟨by omega, by omega⟩, fun hne => bad (F.f3 k k4 hne), fun he => ⟨⟨by omega, by omega⟩, by rw [List.length_drop]; omega, zY.2 ⟨fun k7 => ?_, fun k7 => ?_⟩⟩⟩
   ·obtain ⟨i1, i2, i3⟩ := F.f7 k k4 he k7
    refine ⟨fun _ => hb1, fun _ => rb _ k7, zY.2 ⟨fun k8 => bad (Bool.eq_false_iff.2 fun hb => ?_), fun k8 => ?_⟩⟩
    ·obtain ⟨j1, j2, j3, j4⟩ := i1.1 hb
     rw [j2, j4, show zM (ZV ((Zz a).drop 1)) 2 = false from Bool.eq_false_iff.2 fun e => by have := (zq _ _).1 e; omega] at k8
     cases k8
    ·have hb : zC a = true := i1.2 (by
      rw [Bool.or_eq_false_iff, Bool.or_eq_false_iff] at k8
      obtain ⟨⟨q1, q2⟩, q3⟩ := k8
      refine ⟨by simpa using k2, by simpa using q1, ?_, by simpa using q3⟩
      refine Decidable.byContradiction fun hn => ?_
      rw [(zq _ _).2 (by omega)] at q2
      cases q2)
     exact ⟨_, ⟨hb, (i3 hb).symm, i2⟩, rfl⟩
   ·exact ⟨fun h => by simp at h, fun h => by simp at h, bad (F.f6 k k4 he k7)⟩
  ·have k4 : Zz a = [] := by simpa using k3
   obtain ⟨i1, i2, i3⟩ := F.f2 k k4
   have k2' : (zJ a && ZV a == 0) = false := k2
   have hb : zC a = true := by rw [i1, k2']; rfl
   exact ⟨1, ⟨hb, by rw [i3]; rfl, i2⟩, rfl⟩
  ·obtain ⟨z1, z2, z3⟩ := hz
   have fr := F.fr
   rw [← z3] at fr
   refine ⟨fun hh => ⟨⟨by omega, by omega⟩, rfl, ⟨?_, ?_⟩, z1.symm⟩, fun hh => ⟨rfl, ⟨?_, ?_⟩, z1.symm⟩⟩
   ·rw [z1, fr, hgt.1 hh]; rfl
   ·rw [z1]; exact z2
   ·have : zJ a = false := Bool.eq_false_iff.2 fun e => by have := hgt.2 e; omega
    rw [z1, fr, this]; rfl
   ·rw [z1]; exact z2
theorem NB (a : List UInt8) (hl : a.length ≤ 9223372036854775807) : zv Tryz.prog [] 30 [.str a] (.tup 2 (zw [.agg 2 (zw [.i (bif zC a then zL a else 0), .i (bif zC a then (zo a : Int) else 0)]), .b (zC a)])) :=
 zW (T := eM) (an := K7 a) mixed Od (Eq.mp (by kernel_rfl) (Kc a hl))
theorem Uk : zQ Tryz.prog [] 30 v7 := by
 intro xs ps r h hp
 unfold v7 at h
 split at h
 ·skip
  rename_i a
  cases h
  obtain ⟨q0, -⟩ := ZT hp
  exact weaken (ys := [.str a]) ⟨zV _, trivial⟩ (NB a q0)
 ·cases h
end Go.Te
