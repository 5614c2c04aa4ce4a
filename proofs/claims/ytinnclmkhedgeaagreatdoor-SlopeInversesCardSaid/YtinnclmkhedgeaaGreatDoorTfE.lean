/- rational: nativeOf. -/
import Derived.Test.YtinnclmkhedgeaaGreatDoorTfS
set_option linter.unusedSimpArgs false
set_option linter.unusedVariables false
namespace Go.Te
open Go Go.Sx Go.Proofs Go.Ar
set_option maxRecDepth 100000
set_option maxHeartbeats 4000000
def zZ (a : zK) : Bool := Zq a == 0 && leB ((zR (zU a)).length : Int) 8 && leB ((zi (zU a)).length : Int) 8
theorem wi (s : zK) : YD s ++ s.drop (YD s).length = s := by
 have h : s = s.takeWhile Zx ++ s.dropWhile Zx := (List.takeWhile_append_dropWhile).symm
 have gen : ∀ t u : zK, t ++ u = s → s.drop t.length = u := by
  rintro t u rfl
  exact List.drop_left
 have h2 : s.drop (YD s).length = s.dropWhile Zx := gen _ _ h.symm
 rw [h2]
 exact h.symm
theorem ri (s : zK) : ∀ c ∈ YD s, Zx c = true := fun c hc => List.all_eq_true.1 (List.all_takeWhile (l := s) (p := Zx)) c hc
theorem YS {s : zK} : ZV s = true ↔ Zt (YD s) = true ∧ (YD s).length ≤ 8 := by
 unfold ZV
 rw [Bool.and_eq_true, Zy]
 exact ⟨fun h => ⟨h.1, by omega⟩, fun h => ⟨h.1, by omega⟩⟩
theorem y9 {s : zK} (h : ZV s = true) : zf s = (zI (YD s) : Int) ∧ zj s = s.drop (YD s).length ∧ YD s ++ zj s = s ∧ 0 ≤ zf s ∧ zf s ≤ 99999999 := by
 have e1 : zf s = (zI (YD s) : Int) := by unfold zf; rw [h]; rfl
 have e2 : zj s = s.drop (YD s).length := by unfold zj; rw [h]; rfl
 obtain ⟨h1, h2⟩ := YS.1 h
 have b := XZ h1 (k := 8) h2
 rw [show 10 ^ 8 = 100000000 from by decide] at b
 exact ⟨e1, e2, by rw [e2]; exact wi s, by omega, by omega⟩
theorem v7 {s : zK} (h : Zt s = true) : YD s = s := by
 have := Vp (a := s) (b := []) (ZT.1 h).2.1
 rw [List.append_nil] at this
 rw [this]
 show s ++ [] = s
 simp
theorem UV {s : zK} (h : Zt s = true) (hl : s.length ≤ 8) : ZV s = true ∧ zf s = (zI s : Int) ∧ zj s = [] := by
 have ht := v7 h
 have ho : ZV s = true := YS.2 (by rw [ht]; exact ⟨h, hl⟩)
 obtain ⟨n1, n2, _⟩ := y9 ho
 rw [ht] at n1 n2
 exact ⟨ho, n1, by rw [n2]; simp⟩
theorem WC {s : zK} (h : ZV s = true) (hr : zj s = []) : Zt s = true ∧ s.length ≤ 8 ∧ zf s = (zI s : Int) := by
 obtain ⟨n1, n2, n3, _⟩ := y9 h
 rw [hr, List.append_nil] at n3
 obtain ⟨h1, h2⟩ := YS.1 h
 rw [n3] at h1 h2 n1
 exact ⟨h1, h2, n1⟩
theorem Yn {a : zK} : zZ a = true ↔ Xq a = true ∧ (zR (zU a)).length ≤ 8 ∧ (zi (zU a)).length ≤ 8 ∧ (zT (zU a) = true → Nat.gcd (zI (zR (zU a))) (zI (zi (zU a))) = 1) := by
 unfold zZ
 rw [Bool.and_eq_true, Bool.and_eq_true, Zy, Zy, beq_iff_eq]
 constructor
 ·rintro ⟨⟨h1, h2⟩, h3⟩
  cases hf : Xq a with
  | false => rw [SR hf] at h1; cases h1
  | true =>
   refine ⟨rfl, by omega, by omega, fun hs => ?_⟩
   rw [Uv hf ⟨by omega, by omega⟩ hs] at h1
   cases hg : Nat.beq (Nat.gcd (zI (zR (zU a))) (zI (zi (zU a)))) 1 with
   | true => exact Nat.eq_of_beq_eq_true hg
   | false => rw [hg] at h1; cases h1
 ·rintro ⟨h1, h2, h3, h4⟩
  refine ⟨⟨?_, by omega⟩, by omega⟩
  cases hs : zT (zU a) with
  | false => exact S8 h1 (by omega) hs
  | true =>
   rw [Uv h1 ⟨by omega, by omega⟩ hs, h4 hs]
   rfl
theorem Yq {a : zK} : Xq a = true ↔ Zt (zR (zU a)) = true ∧ ¬ (zE a = true ∧ zR (zU a) = [48]) ∧ (zT (zU a) = true → Zt (zi (zU a)) = true ∧ zi (zU a) ≠ [48] ∧ zi (zU a) ≠ [49]) := by
 unfold Xq
 rw [Bool.and_eq_true, Bool.and_eq_true, Bool.not_eq_true', Bool.and_eq_false_iff, Bool.or_eq_true, Bool.and_eq_true, Bool.and_eq_true, Bool.not_eq_true', Bool.not_eq_true', Bool.not_eq_true', beq_eq_false_iff_ne, beq_eq_false_iff_ne, beq_eq_false_iff_ne]
 constructor
 ·rintro ⟨⟨h1, h2⟩, h3⟩
  refine ⟨h1, fun h => ?_, fun h => ?_⟩
  ·rcases h2 with h2 | h2
   ·rw [h.1] at h2; cases h2
   ·exact h2 h.2
  ·rcases h3 with h3 | h3
   ·rw [h] at h3; cases h3
   ·exact ⟨h3.1.1, h3.1.2, h3.2⟩
 ·rintro ⟨h1, h2, h3⟩
  refine ⟨⟨h1, ?_⟩, ?_⟩
  ·cases hm : zE a with
   | false => exact .inl rfl
   | true => exact .inr fun e => h2 ⟨hm, e⟩
  ·cases hs : zT (zU a) with
   | false => exact .inl rfl
   | true => have := h3 hs; exact .inr ⟨⟨this.1, this.2.1⟩, this.2.2⟩
theorem ss {s : zK} (h : Zt s = true) : zI s = 0 ↔ s = [48] := ⟨fun e => vo h e, fun e => by rw [e]; decide⟩
theorem Pj {s : zK} (h : Zt s = true) : zI s = 1 ↔ s = [49] := ⟨fun e => by
 have := ZQ h
 rw [e, zg (by omega)] at this
 exact this.symm, fun e => by rw [e]; decide⟩
structure NF (a o : zK) : Prop where
 f0 : ZV o = false → zZ a = false
 f1 : ZV o = true → 0 ≤ zf o ∧ zf o ≤ 99999999
 f2 : ZV o = true → zj o = [] → zZ a = !(zE a && zf o == 0) ∧ zf o = (zI (zR (zU a)) : Int) ∧ zS a = 1
 f3 : ZV o = true → zj o ≠ [] → (zj o).getD 0 0 ≠ 47 → zZ a = false
 f5 : ZV o = true → (zE a && zf o == 0) = true → zZ a = false
 f6 : ZV o = true → zj o ≠ [] → (zj o).getD 0 0 = 47 → ZV ((zj o).drop 1) = false → zZ a = false
 f7 : ZV o = true → zj o ≠ [] → (zj o).getD 0 0 = 47 → ZV ((zj o).drop 1) = true →
  (zZ a = true ↔ (zE a && zf o == 0) = false ∧ zj ((zj o).drop 1) = [] ∧ 2 ≤ zf ((zj o).drop 1) ∧ Y1 (zf o) (zf ((zj o).drop 1)) = 1) ∧ zf o = (zI (zR (zU a)) : Int) ∧ (zZ a = true → (zS a : Int) = zf ((zj o).drop 1))
 fr : zV a = bif zE a then -(zI (zR (zU a)) : Int) else (zI (zR (zU a)) : Int)
theorem Vj {a : zK} (h : zZ a = true) : ZV (zU a) = true ∧ zf (zU a) = (zI (zR (zU a)) : Int) ∧ zj (zU a) = (bif zT (zU a) then 47 :: zi (zU a) else []) := by
 obtain ⟨h1, h2, h3, h4⟩ := Yn.1 h
 obtain ⟨g1, g2, g3⟩ := Yq.1 h1
 have ht : YD (zU a) = zR (zU a) ∧ (zU a).drop (zR (zU a)).length = (bif zT (zU a) then 47 :: zi (zU a) else []) := by
  cases hs : zT (zU a) with
  | false =>
   obtain ⟨c1, c2⟩ := Z3 hs
   rw [c1] at g1 ⊢
   exact ⟨v7 g1, by simp⟩
  | true =>
   have he := xV hs
   have e1 : YD (zU a) = zR (zU a) := by
    conv => lhs; rw [he]
    rw [Vp (ZT.1 g1).2.1]
    show zR (zU a) ++ [] = _
    rw [List.append_nil]
   refine ⟨e1, ?_⟩
   conv => lhs; arg 2; rw [he]
   rw [List.drop_left]
   rfl
 have ho : ZV (zU a) = true := YS.2 (by rw [ht.1]; exact ⟨g1, h2⟩)
 obtain ⟨n1, n2, _⟩ := y9 ho
 rw [ht.1] at n1 n2
 exact ⟨ho, n1, by rw [n2, ht.2]⟩
theorem XN {a : zK} : zV a = (bif zE a then -(zI (zR (zU a)) : Int) else (zI (zR (zU a)) : Int)) ∧ zS a = (bif zT (zU a) then zI (zi (zU a)) else 1) := by
 obtain ⟨_, _, _, _, _, h6, h7⟩ := yS a
 exact ⟨h6, h7⟩
theorem nf (a : zK) : NF a (zU a) := by
 obtain ⟨r1, r2⟩ := XN (a := a)
 have neg : ZV (zU a) = true → (zE a && zf (zU a) == 0) = true → zZ a = false := fun h hz => Bool.eq_false_iff.2 fun hb => by
  obtain ⟨_, n1, _⟩ := Vj hb
  obtain ⟨h1, _⟩ := Yn.1 hb
  obtain ⟨g1, g2, _⟩ := Yq.1 h1
  rw [Bool.and_eq_true, beq_iff_eq, n1] at hz
  exact g2 ⟨hz.1, (ss g1).1 (by omega)⟩
 have sm : ZV (zU a) = true → zj (zU a) ≠ [] → (zj (zU a)).getD 0 0 = 47 → zR (zU a) = YD (zU a) ∧ zi (zU a) = (zj (zU a)).drop 1 ∧ zT (zU a) = true := fun h h1 h2 => by
  obtain ⟨n1, n2, n3, _⟩ := y9 h
  have e : zj (zU a) = 47 :: (zj (zU a)).drop 1 := by
   match zj (zU a), h1, h2 with
   | c :: r, _, h2 => rw [show c = 47 from h2]; rfl
  rw [e] at n3
  have := WR (a := YD (zU a)) (b := (zj (zU a)).drop 1) fun c hc => wl (ri _ c hc)
  rw [n3] at this
  exact this
 refine ⟨fun h => Bool.eq_false_iff.2 fun hb => ?_, fun h => (y9 h).2.2.2, fun h h1 => ?_, fun h h1 h2 => Bool.eq_false_iff.2 fun hb => ?_, neg, fun h h1 h2 h3 => Bool.eq_false_iff.2 fun hb => ?_, fun h h1 h2 h3 => ?_, r1⟩
 ·rw [(Vj hb).1] at h; cases h
 ·obtain ⟨b1, b2, b3⟩ := WC h h1
  obtain ⟨c1, c2, c3⟩ := sF (s := zU a) fun i hi e => by
   have := (ZT.1 b1).2.1 _ (uO (s := zU a) (i := i) hi)
   rw [e] at this
   cases this
  rw [c2, r2, c1]
  refine ⟨?_, b3, rfl⟩
  rw [Bool.eq_iff_iff, Yn, Yq, c1, c2, c3, Bool.not_eq_true', b3]
  constructor
  ·rintro ⟨⟨_, g2, _⟩, _⟩
   rw [Bool.and_eq_false_iff]
   cases hm : zE a with
   | false => exact .inl rfl
   | true => exact .inr (beq_eq_false_iff_ne.2 fun e => g2 ⟨hm, (ss b1).1 (by omega)⟩)
  ·intro g
   refine ⟨⟨b1, fun g2 => ?_, fun e => by cases e⟩, b2, by simp, fun e => by cases e⟩
   rw [g2.1, g2.2] at g
   cases g
 ·have := (Vj hb).2.2
  rw [this] at h1 h2
  cases hs : zT (zU a) with
  | false => rw [hs] at h1; exact h1 rfl
  | true => rw [hs] at h2; exact h2 rfl
 ·obtain ⟨c1, c2, c3⟩ := sm h h1 h2
  obtain ⟨k1, k2, k3, _⟩ := Yn.1 hb
  have d1 := (Yq.1 k1).2.2 c3
  rw [c2] at d1 k3
  rw [(UV d1.1 k3).1] at h3
  cases h3
 ·obtain ⟨c1, c2, c3⟩ := sm h h1 h2
  obtain ⟨n1, _, _, _⟩ := y9 h
  obtain ⟨o1, o2⟩ := YS.1 h
  rw [c1, r2, c3, c2]
  obtain ⟨m1, _, _, m4, m5⟩ := y9 h3
  have hgO : Y1 (zf (zU a)) (zf ((zj (zU a)).drop 1)) = (Nat.gcd (zf (zU a)).toNat (zf ((zj (zU a)).drop 1)).toNat : Int) := by
   unfold Y1
   rw [(Zy _ _).2 (y9 h).2.2.2.1, (Zy _ _).2 m4]
   rfl
  have key : zZ a = true ↔ (zE a && zf (zU a) == 0) = false ∧ zj ((zj (zU a)).drop 1) = [] ∧ 2 ≤ zf ((zj (zU a)).drop 1) ∧ Y1 (zf (zU a)) (zf ((zj (zU a)).drop 1)) = 1 := by
   rw [Yn, Yq, c1, c2, c3, hgO]
   constructor
   ·rintro ⟨⟨_, g2, g3⟩, g4, g5, g6⟩
    obtain ⟨g7, g8, g9⟩ := g3 rfl
    obtain ⟨q1, q2, q3⟩ := UV g7 g5
    have z0 : zI ((zj (zU a)).drop 1) ≠ 0 := fun e => g8 ((ss g7).1 e)
    have z1 : zI ((zj (zU a)).drop 1) ≠ 1 := fun e => g9 ((Pj g7).1 e)
    refine ⟨?_, q3, by omega, ?_⟩
    ·rw [Bool.and_eq_false_iff]
     cases hm : zE a with
     | false => exact .inl rfl
     | true => exact .inr (beq_eq_false_iff_ne.2 fun e => g2 ⟨hm, (ss o1).1 (by omega)⟩)
    ·rw [n1, q2, Int.toNat_natCast, Int.toNat_natCast, g6 rfl]; rfl
   ·rintro ⟨g1, g2, g3, g4⟩
    obtain ⟨q1, q2, q3⟩ := WC h3 g2
    have z0 : zI ((zj (zU a)).drop 1) ≠ 0 := by omega
    have z1 : zI ((zj (zU a)).drop 1) ≠ 1 := by omega
    refine ⟨⟨o1, fun e => ?_, fun _ => ⟨q1, fun e => z0 ((ss q1).2 e), fun e => z1 ((Pj q1).2 e)⟩⟩, o2, q2, fun _ => ?_⟩
    ·rw [e.1, n1, (ss o1).2 e.2] at g1
     cases g1
    ·rw [n1, q3, Int.toNat_natCast, Int.toNat_natCast] at g4
     omega
  refine ⟨key, n1, fun hb => ?_⟩
  obtain ⟨_, g2, _⟩ := key.1 hb
  obtain ⟨q1, q2, q3⟩ := WC h3 g2
  rw [q3]
  rfl
noncomputable def oQ : Tb := (T0.plus 110 V6).plus 111 v6
theorem Ti : zz Tryz.prog oQ := zz.plus (zz.plus zO qt) Sv
def R1 (a : zK) (x y : Z6) : Z6 := .join Int (fun σ _ => [(0, σ.tm 0), (2, σ.tm 2), (4, σ.tm 4), (5, σ.tm 5), (8, σ.tm 8)]) (fun σ z => [(1, .box 66 2 (zY [σ.tm 5, .i z]))]) 0
 (fun σ z => zZ a = true ∧ z = (zS a : Int) ∧ AV.int (σ.tm 5) = (zI (zR (zU a)) : Int)) x y
def RD (a : zK) : Z6 := .two .auto (.two .auto (.two .auto (.two .auto (.split 7 .auto (.two .auto (R1 a (.two .auto (.two (.two .auto (.two .auto (.split 7 .auto .auto))) .auto)) .auto))))))
def Uh : List AV → Option (List zN × AV)
 | [.str a] => some ([.p (a.length ≤ 9223372036854775807)], .tup 2 (zY [.agg 2 (zY [.i (bif zZ a then zV a else 0), .i (bif zZ a then (zS a : Int) else 0)]), .b (zZ a)]))
 | _ => none
theorem RE (a : List UInt8) (hl : a.length ≤ 9223372036854775807) :
 let q1 := (!zq true !a == bA #[] || zq true !a == bA #[]); let q2 := (z7 (lZ (List.drop 1 a)) (lZ a)); let q4 := (True ∧ 2 = 2 ∧ (kI ∧ iZ = bif zZ a then zV a else iZ) ∧ kI ∧ iZ = bif zZ a then (cI (zS a)) else iZ); let q3 := (j2 ∧ q4 ∧ false = zZ a); let q5 := (lZ (zj (List.drop 1 a))); let q7 := (bif !true then true else !zj (List.drop 1 (zj
 (List.drop 1 a))) == bA #[]); let q6 := (!zq false q7 || zq false q7); let q10 := (zf (List.drop 1 (zj (List.drop 1 a)))); let q9 := (bif bif !true then true else !zj (List.drop 1 (zj (List.drop 1 a))) == bA #[] then true else z7 q10 (2 : Int)); let q8 := (!zq false q9 || zq false q9); let q11 := (aI (zf (List.drop 1 a))); let q12 := (kI ∧ zf (List.drop 1 a) = zf (List.drop 1 a)); let q13 := (66 = 66 ∧ 2 = 2 ∧ (kI ∧ iZ = iZ)
 ∧ kI ∧ iZ = iZ); let q14 := (bif bif !false then true else !zj (List.drop 1 (zj (List.drop 1 a))) == bA #[] then true else z7 q10 (2 : Int)); let q15 := (z7 (lZ a) (lZ a)); let q17 := (bif !true then true else !zj (List.drop 1 (zj a)) == bA #[]); let q16 := (!zq false q17 || zq false q17); let q19 := (bif bif !true then true else !zj (List.drop 1 (zj a)) == bA #[] then true else z7 (zf
 (List.drop 1 (zj a))) (2 : Int)); let q18 := (!zq false q19 || zq false q19); let q20 := (bif bif !false then true else !zj (List.drop 1 (zj a)) == bA #[] then true else z7 (zf (List.drop 1 (zj a))) (2 : Int)); ZY [AV.str a] → bF q1 (bF (!zq true !a == bA #[] || DB.db (iZ ≤ iZ ∧ iZ < (lZ a))) (bF q1 (bF (!!a == bA #[] || zq true !a == bA #[]) (zv (bif
 !a == bA #[] then (cI (UInt8.toNat (gD a 0 (0 : UInt8)))) == (45 : Int) else false) (bF (DB.db (iZ ≤ iO ∧ iO ≤ (lZ a))) (lN (List.drop 1 a) ≤ nX ∧ zv (ZV (List.drop 1 a)) (bF (!(zq false !true && zq true q2) || zq false !true && zq true q2) (bF (!zq false !true || (!z7 (lZ (List.drop 1 a)) (lZ a) || zq false !true && zq true q2)) (zv (bif !true then true else bif z7 (lZ (List.drop 1 a))
 (lZ a) then zf (List.drop 1 a) == iZ else false) q3 (zv (!zj (List.drop 1 a) == bA #[]) (bF (DB.db (iZ ≤ iZ ∧ iZ < q5)) (zv ((cI (UInt8.toNat (gD (zj (List.drop 1 a)) 0 (0 : UInt8)))) != (47 : Int)) q3 (bF (DB.db (iZ ≤ iO ∧ iO ≤ q5)) (lN (List.drop 1 (zj (List.drop 1 a))) ≤ nX ∧ zv (ZV (List.drop 1 (zj (List.drop 1 a)))) (bF q6 (bF q6 (bF ((!!bif !true then true else !zj (List.drop 1 (zj (List.drop 1
 a))) == bA #[]) || zq false q7) (bF q8 (bF q8 (bF q8 ((zq false q9 = true → iZ ≤ zf (List.drop 1 a) ∧ zf (List.drop 1 a) ≤ iX) ∧ (zq false q9 = true → iZ ≤ zf (List.drop 1 (zj (List.drop 1 a))) ∧ zf (List.drop 1 (zj (List.drop 1 a))) ≤ iX) ∧ bF q8 (bF ((!!bif bif !true then true else !zj (List.drop 1 (zj (List.drop 1 a))) == bA #[] then true else z7 q10 (2 : Int)) || zq false q9) (zv (bif bif bif
 !true then true else !zj (List.drop 1 (zj (List.drop 1 a))) == bA #[] then true else z7 q10 (2 : Int) then true else Y1 (zf (List.drop 1 a)) q10 != iO) q3 (∃ (z : Int), ((zZ a = true ∧ z = (cI (zS a)) ∧ AV.int q11 = (cI (zI (zR (zU a))))) ∧ a = a ∧ (nat_lit 0 = 0 ∧ 0 = 0) ∧ List.drop 1 a = List.drop 1 a ∧ q12 ∧ nat_lit 1 = 1 ∧ 0 = 0) ∧ q13 ∧ (66 : TypeId) = 66 ∧ 2 = 2 ∧ q12 ∧ kI ∧ zf (List.drop 1 (zj (List.drop 1 a))) = z)))))))))) ((zq false q14 =
 true → iZ ≤ zf (List.drop 1 a) ∧ zf (List.drop 1 a) ≤ iX) ∧ (zq false q14 = true → iZ ≤ zf (List.drop 1 (zj (List.drop 1 a))) ∧ zf (List.drop 1 (zj (List.drop 1 a))) ≤ iX) ∧ j2 ∧ q4 ∧ false = zZ a))))) (∃ (z : Int), ((zZ a = true ∧ z = (cI (zS a)) ∧ AV.int q11 = (cI (zI (zR (zU a))))) ∧ a = a ∧ (nat_lit 0 = 0 ∧ 0 = 0) ∧ List.drop 1 a = List.drop 1 a ∧ q12 ∧ nat_lit 1 = 1 ∧ 0 = 0) ∧ q13 ∧ (66 : TypeId) = 66 ∧ 2 = 2 ∧ q12 ∧ kI ∧ iO =
 z) ∧ ∀ (z : Int), zZ a = true ∧ z = (cI (zS a)) ∧ AV.int q11 = (cI (zI (zR (zU a)))) → zv q2 (bF (dK (-zf (List.drop 1 a))) (j2 ∧ (True ∧ 2 = 2 ∧ (kI ∧ -zf (List.drop 1 a) = bif zZ a then zV a else iZ) ∧ kI ∧ z = bif zZ a then (cI (zS a)) else iZ) ∧ true = zZ a)) (j2 ∧ (True ∧ 2 = 2 ∧ (kI ∧ zf (List.drop 1 a) = bif zZ a then zV a else iZ) ∧ kI ∧ z = bif zZ a then (↑(zS a) :
 Int) else iZ) ∧ true = zZ a))))) q3)) (lN a ≤ nX ∧ zv (ZV a) (bF (!(zq false !true && zq true q15) || zq false !true && zq true q15) (bF (!zq false !true || (!z7 (lZ a) (lZ a) || zq false !true && zq true q15)) (zv (bif !true then true else bif z7 (lZ a) (lZ a) then zf a == iZ else false) q3 (zv (!zj a == bA #[]) (bF (DB.db (iZ ≤ iZ ∧ iZ < (cI (List.length
 (zj a))))) (zv ((cI (UInt8.toNat (gD (zj a) 0 (0 : UInt8)))) != (47 : Int)) q3 (bF (DB.db (iZ ≤ iO ∧ iO ≤ (lZ (zj a)))) (lN (List.drop 1 (zj a)) ≤ nX ∧ zv (ZV (List.drop 1 (zj a))) (bF q16 (bF q16 (bF ((!!bif !true then true else !zj (List.drop 1 (zj a)) == bA #[]) || zq false q17) (bF q18 (bF q18 (bF q18 ((zq false q19 = true → iZ ≤ zf a ∧ zf a ≤ iX) ∧ (zq false q19 = true → (0
 : Int) ≤ zf (List.drop 1 (zj a)) ∧ zf (List.drop 1 (zj a)) ≤ iX) ∧ bF q18 (bF ((!!bif bif !true then true else !zj (List.drop 1 (zj a)) == bA #[] then true else z7 (zf (List.drop 1 (zj a))) (2 : Int)) || zq false q19) (zv (bif bif bif !true then true else !zj (List.drop 1 (zj a)) == bA #[] then true else z7 (zf (List.drop 1 (zj a))) (2 : Int) then true else Y1 (zf a) (zf (List.drop 1 (zj a))) != iO) q3 (∃ (z : Int), ((zZ a = true ∧
 z = (cI (zS a)) ∧ AV.int (aI (zf a)) = (cI (zI (zR (zU a))))) ∧ a = a ∧ (nat_lit 0 = 0 ∧ 0 = 0) ∧ a = a ∧ (kI ∧ zf a = zf a) ∧ nat_lit 1 = 1 ∧ 0 = 0) ∧ q13 ∧ (66 : TypeId) = 66 ∧ 2 = 2 ∧ (kI ∧ zf a = zf a) ∧ kI ∧ zf (List.drop 1 (zj a)) = z)))))))))) ((zq false q20 = true → iZ ≤ zf a ∧ zf a ≤ iX) ∧ (zq false q20 = true → iZ ≤ zf (List.drop 1 (zj a)) ∧ zf (List.drop 1 (zj a)) ≤ (9223372036854775807
 : Int)) ∧ j2 ∧ q4 ∧ false = zZ a))))) (∃ (z : Int), ((zZ a = true ∧ z = (cI (zS a)) ∧ AV.int (aI (zf a)) = (cI (zI (zR (zU a))))) ∧ a = a ∧ (nat_lit 0 = 0 ∧ 0 = 0) ∧ a = a ∧ (kI ∧ zf a = zf a) ∧ nat_lit 1 = 1 ∧ 0 = 0) ∧ q13 ∧ (66 : TypeId) = 66 ∧ 2 = 2 ∧ (kI ∧ zf a = zf a) ∧ kI ∧ iO = z) ∧ ∀ (z : Int), zZ a = true ∧ z = (cI (zS a)) ∧ AV.int (aI (zf a)) = (cI (zI (zR (zU a)))) → zv q15 (bF (DB.db (YT
 .i64 (-zf a))) (j2 ∧ (True ∧ 2 = 2 ∧ (kI ∧ -zf a = bif zZ a then zV a else iZ) ∧ kI ∧ z = bif zZ a then (cI (zS a)) else iZ) ∧ true = zZ a)) (j2 ∧ (True ∧ 2 = 2 ∧ (kI ∧ zf a = bif zZ a then zV a else iZ) ∧ kI ∧ z = bif zZ a then (cI (zS a)) else iZ) ∧ true = zZ a))))) q3))))) := by
 delta bF dK bA nX cI kI j2 lZ lN gD iZ iO iX aI
 dsimp only
 intro hb
 simp only [sS, dS, xI]
 have em : (!(a == []) && ((a.getD 0 0).toNat : Int) == 45) = zE a := by
  rw [show (((a.getD 0 0).toNat : Int) == 45) = (a.getD 0 0 == 45) from Xo (a.getD 0 0) 45 (by decide)]
  unfold zE
  match a with
  | [] => rfl
  | c :: r => simp
 have e47 : ∀ c : UInt8, ((c.toNat : Int) = 47) ↔ c = 47 := fun c => by
  have := Xo c 47 (by decide)
  rw [Bool.eq_iff_iff, beq_iff_eq, beq_iff_eq] at this
  exact this
 have bad : zZ a = false → 2 = [AV.junk, AV.junk].length ∧ ((0 = bif zZ a then zV a else 0) ∧ 0 = bif zZ a then (zS a : Int) else 0) ∧ false = zZ a := fun h => by rw [h]; exact ⟨rfl, ⟨rfl, rfl⟩, rfl⟩
 have rb : ∀ s : zK, ZV s = true → 0 ≤ zf s ∧ zf s ≤ 9223372036854775807 := fun s h => by have := (y9 h).2.2.2; omega
 have F := nf a
 rw [em]
 simp only [e47, ne_eq]
 have hpos : (!(a == [])) = true → 0 < a.length := fun h => by
  match a, h with
  | c :: r, _ => simp
 refine ⟨fun h => ⟨Int.le_refl _, by have := hpos h; omega⟩, zr.2 ⟨fun c => ?_, fun c => ?_⟩⟩
 ·have hown : zU a = a.drop 1 := by unfold zU; rw [c]; rfl
  have hl1 := (UD c).2
  have hlt : z7 ((a.drop 1).length : Int) (a.length : Int) = zE a := by rw [c, zm, List.length_drop]; omega
  rw [hown] at F
  refine ⟨⟨by omega, by omega⟩, by rw [List.length_drop]; omega, ?_⟩
  generalize ho : a.drop 1 = o at *
  have hlo : o.length ≤ a.length := by rw [← ho, List.length_drop]; omega
  have hgt : (o.length : Int) < (a.length : Int) ↔ zE a = true := by rw [← hlt, zm]
  rw [hlt]
  refine zr.2 ⟨fun k => ?_, fun k => bad (F.f0 k)⟩
  refine vW (by cases zE a <;> rfl) ?_
  have hb1 := rb _ k
  refine zr.2 ⟨fun k2 => bad (F.f5 k (by simpa using k2)), fun k2 => ⟨zr.2 ⟨fun k3 => ?_, fun k3 => ?_⟩, fun z hz => ?_⟩⟩
  ·have k4 : zj o ≠ [] := by simpa using k3
   have k5 : 0 < (zj o).length := Nat.pos_of_ne_zero fun e => k4 (List.eq_nil_of_length_eq_zero e)
   have k6 : (zj o).length ≤ o.length := by
    obtain ⟨_, _, h3, _⟩ := y9 k
    have := congrArg List.length h3
    rw [List.length_append] at this
    omega
   refine ⟨⟨by omega, by omega⟩, fun hne => bad (F.f3 k k4 hne), fun he => ⟨⟨by omega, by omega⟩, by rw [List.length_drop]; omega, zr.2 ⟨fun k7 => ?_, fun k7 => ?_⟩⟩⟩
   ·obtain ⟨i1, i2, i3⟩ := F.f7 k k4 he k7
    refine ⟨fun _ => hb1, fun _ => rb _ k7, zr.2 ⟨fun k8 => bad (Bool.eq_false_iff.2 fun hb => ?_), fun k8 => ?_⟩⟩
    ·obtain ⟨j1, j2, j3, j4⟩ := i1.1 hb
     rw [j2, j4, show z7 (zf ((zj o).drop 1)) 2 = false from Bool.eq_false_iff.2 fun e => by have := (zm _ _).1 e; omega] at k8
     cases k8
    ·have hb : zZ a = true := i1.2 (by
      rw [Bool.or_eq_false_iff, Bool.or_eq_false_iff] at k8
      obtain ⟨⟨q1, q2⟩, q3⟩ := k8
      refine ⟨by simpa using k2, by simpa using q1, ?_, by simpa using q3⟩
      refine Decidable.byContradiction fun hn => ?_
      rw [(zm _ _).2 (by omega)] at q2
      cases q2)
     exact ⟨_, ⟨hb, (i3 hb).symm, i2⟩, rfl⟩
   ·exact ⟨fun h => by simp at h, fun h => by simp at h, bad (F.f6 k k4 he k7)⟩
  ·have k4 : zj o = [] := by simpa using k3
   obtain ⟨i1, i2, i3⟩ := F.f2 k k4
   have k2' : (zE a && zf o == 0) = false := k2
   have hb : zZ a = true := by rw [i1, k2']; rfl
   exact ⟨1, ⟨hb, by rw [i3]; rfl, i2⟩, rfl⟩
  ·obtain ⟨z1, z2, z3⟩ := hz
   have fr := F.fr
   rw [← z3] at fr
   refine ⟨fun hh => ⟨⟨by omega, by omega⟩, rfl, ⟨?_, ?_⟩, z1.symm⟩, fun hh => ⟨rfl, ⟨?_, ?_⟩, z1.symm⟩⟩
   ·rw [z1, fr, hgt.1 hh]; rfl
   ·rw [z1]; exact z2
   ·have : zE a = false := Bool.eq_false_iff.2 fun e => by have := hgt.2 e; omega
    rw [z1, fr, this]; rfl
   ·rw [z1]; exact z2
 ·have hown : zU a = a := by unfold zU; rw [c]; rfl
  have hlt : z7 (a.length : Int) (a.length : Int) = zE a := by rw [c, Bool.eq_false_iff, Ne, zm]; omega
  rw [hown] at F
  have hlo : a.length ≤ a.length := Nat.le_refl _
  have hgt : (a.length : Int) < (a.length : Int) ↔ zE a = true := by rw [← hlt, zm]
  refine ⟨by omega, ?_⟩
  rw [hlt]
  refine zr.2 ⟨fun k => ?_, fun k => bad (F.f0 k)⟩
  refine vW (by cases zE a <;> rfl) ?_
  have hb1 := rb _ k
  refine zr.2 ⟨fun k2 => bad (F.f5 k (by simpa using k2)), fun k2 => ⟨zr.2 ⟨fun k3 => ?_, fun k3 => ?_⟩, fun z hz => ?_⟩⟩
  ·have k4 : zj a ≠ [] := by simpa using k3
   have k5 : 0 < (zj a).length := Nat.pos_of_ne_zero fun e => k4 (List.eq_nil_of_length_eq_zero e)
   have k6 : (zj a).length ≤ a.length := by
    obtain ⟨_, _, h3, _⟩ := y9 k
    have := congrArg List.length h3
    rw [List.length_append] at this
    omega
   refine ⟨⟨by omega, by omega⟩, fun hne => bad (F.f3 k k4 hne), fun he => ⟨⟨by omega, by omega⟩, by rw [List.length_drop]; omega, zr.2 ⟨fun k7 => ?_, fun k7 => ?_⟩⟩⟩
   ·obtain ⟨i1, i2, i3⟩ := F.f7 k k4 he k7
    refine ⟨fun _ => hb1, fun _ => rb _ k7, zr.2 ⟨fun k8 => bad (Bool.eq_false_iff.2 fun hb => ?_), fun k8 => ?_⟩⟩
    ·obtain ⟨j1, j2, j3, j4⟩ := i1.1 hb
     rw [j2, j4, show z7 (zf ((zj a).drop 1)) 2 = false from Bool.eq_false_iff.2 fun e => by have := (zm _ _).1 e; omega] at k8
     cases k8
    ·have hb : zZ a = true := i1.2 (by
      rw [Bool.or_eq_false_iff, Bool.or_eq_false_iff] at k8
      obtain ⟨⟨q1, q2⟩, q3⟩ := k8
      refine ⟨by simpa using k2, by simpa using q1, ?_, by simpa using q3⟩
      refine Decidable.byContradiction fun hn => ?_
      rw [(zm _ _).2 (by omega)] at q2
      cases q2)
     exact ⟨_, ⟨hb, (i3 hb).symm, i2⟩, rfl⟩
   ·exact ⟨fun h => by simp at h, fun h => by simp at h, bad (F.f6 k k4 he k7)⟩
  ·have k4 : zj a = [] := by simpa using k3
   obtain ⟨i1, i2, i3⟩ := F.f2 k k4
   have k2' : (zE a && zf a == 0) = false := k2
   have hb : zZ a = true := by rw [i1, k2']; rfl
   exact ⟨1, ⟨hb, by rw [i3]; rfl, i2⟩, rfl⟩
  ·obtain ⟨z1, z2, z3⟩ := hz
   have fr := F.fr
   rw [← z3] at fr
   refine ⟨fun hh => ⟨⟨by omega, by omega⟩, rfl, ⟨?_, ?_⟩, z1.symm⟩, fun hh => ⟨rfl, ⟨?_, ?_⟩, z1.symm⟩⟩
   ·rw [z1, fr, hgt.1 hh]; rfl
   ·rw [z1]; exact z2
   ·have : zE a = false := Bool.eq_false_iff.2 fun e => by have := hgt.2 e; omega
    rw [z1, fr, this]; rfl
   ·rw [z1]; exact z2
theorem Ss (a : List UInt8) (hl : a.length ≤ 9223372036854775807) : zu Tryz.prog [] 65 [.str a] (.tup 2 (zY [.agg 2 (zY [.i (bif zZ a then zV a else 0), .i (bif zZ a then (zS a : Int) else 0)]), .b (zZ a)])) :=
 zW (T := oQ) (an := RD a) mixed Ti (Eq.mp (by kernel_rfl) (RE a hl))
theorem Qb : zP Tryz.prog [] 65 Uh := by
 intro xs ps r h hp
 unfold Uh at h
 split at h
 ·skip
  rename_i a
  cases h
  obtain ⟨q0, -⟩ := Zs hp
  exact weaken (ys := [.str a]) ⟨zw _, trivial⟩ (Ss a q0)
 ·cases h
end Go.Te
