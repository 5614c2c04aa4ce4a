/- rational: nativeOf. -/
import Derived.Test.YthbpnknhfokadaaGreatDoorThS
set_option linter.unusedSimpArgs false
set_option linter.unusedVariables false
namespace Go.Te
open Go Go.Sx Go.Proofs Go.Ar
set_option maxRecDepth 100000
set_option maxHeartbeats 4000000
def Zy (a : zI) : Bool := zG a == 0 && leB ((zL (zR a)).length : Int) 8 && leB ((z6 (zR a)).length : Int) 8
theorem U4 (s : zI) : wj s ++ s.drop (wj s).length = s := by
 have h : s = s.takeWhile Zd ++ s.dropWhile Zd := (List.takeWhile_append_dropWhile).symm
 have gen : ∀ t u : zI, t ++ u = s → s.drop t.length = u := by
  rintro t u rfl
  exact List.drop_left
 have h2 : s.drop (wj s).length = s.dropWhile Zd := gen _ _ h.symm
 rw [h2]
 exact h.symm
theorem Nq (s : zI) : ∀ c ∈ wj s, Zd c = true := fun c hc => List.all_eq_true.1 (List.all_takeWhile (l := s) (p := Zd)) c hc
theorem X2 {s : zI} : Z8 s = true ↔ Z4 (wj s) = true ∧ (wj s).length ≤ 8 := by
 unfold Z8
 rw [Bool.and_eq_true, ZX]
 exact ⟨fun h => ⟨h.1, by omega⟩, fun h => ⟨h.1, by omega⟩⟩
theorem XP {s : zI} (h : Z8 s = true) : ZU s = (zc (wj s) : Int) ∧ z8 s = s.drop (wj s).length ∧ wj s ++ z8 s = s ∧ 0 ≤ ZU s ∧ ZU s ≤ 99999999 := by
 have e1 : ZU s = (zc (wj s) : Int) := by unfold ZU; rw [h]; rfl
 have e2 : z8 s = s.drop (wj s).length := by unfold z8; rw [h]; rfl
 obtain ⟨h1, h2⟩ := X2.1 h
 have b := vX h1 (k := 8) h2
 rw [show 10 ^ 8 = 100000000 from by decide] at b
 exact ⟨e1, e2, by rw [e2]; exact U4 s, by omega, by omega⟩
theorem SQ {s : zI} (h : Z4 s = true) : wj s = s := by
 have := Sp (a := s) (b := []) (Zs.1 h).2.1
 rw [List.append_nil] at this
 rw [this]
 show s ++ [] = s
 simp
theorem RE {s : zI} (h : Z4 s = true) (hl : s.length ≤ 8) : Z8 s = true ∧ ZU s = (zc s : Int) ∧ z8 s = [] := by
 have ht := SQ h
 have ho : Z8 s = true := X2.2 (by rw [ht]; exact ⟨h, hl⟩)
 obtain ⟨n1, n2, _⟩ := XP ho
 rw [ht] at n1 n2
 exact ⟨ho, n1, by rw [n2]; simp⟩
theorem uc {s : zI} (h : Z8 s = true) (hr : z8 s = []) : Z4 s = true ∧ s.length ≤ 8 ∧ ZU s = (zc s : Int) := by
 obtain ⟨n1, n2, n3, _⟩ := XP h
 rw [hr, List.append_nil] at n3
 obtain ⟨h1, h2⟩ := X2.1 h
 rw [n3] at h1 h2 n1
 exact ⟨h1, h2, n1⟩
theorem XE {a : zI} : Zy a = true ↔ WU a = true ∧ (zL (zR a)).length ≤ 8 ∧ (z6 (zR a)).length ≤ 8 ∧ (zh (zR a) = true → Nat.gcd (zc (zL (zR a))) (zc (z6 (zR a))) = 1) := by
 unfold Zy
 rw [Bool.and_eq_true, Bool.and_eq_true, ZX, ZX, beq_iff_eq]
 constructor
 ·rintro ⟨⟨h1, h2⟩, h3⟩
  cases hf : WU a with
  | false => rw [Rm hf] at h1; cases h1
  | true =>
   refine ⟨rfl, by omega, by omega, fun hs => ?_⟩
   rw [UC hf ⟨by omega, by omega⟩ hs] at h1
   cases hg : Nat.beq (Nat.gcd (zc (zL (zR a))) (zc (z6 (zR a)))) 1 with
   | true => exact Nat.eq_of_beq_eq_true hg
   | false => rw [hg] at h1; cases h1
 ·rintro ⟨h1, h2, h3, h4⟩
  refine ⟨⟨?_, by omega⟩, by omega⟩
  cases hs : zh (zR a) with
  | false => exact rB h1 (by omega) hs
  | true =>
   rw [UC h1 ⟨by omega, by omega⟩ hs, h4 hs]
   rfl
theorem xH {a : zI} : WU a = true ↔ Z4 (zL (zR a)) = true ∧ ¬ (zJ a = true ∧ zL (zR a) = [48]) ∧ (zh (zR a) = true → Z4 (z6 (zR a)) = true ∧ z6 (zR a) ≠ [48] ∧ z6 (zR a) ≠ [49]) := by
 unfold WU
 rw [Bool.and_eq_true, Bool.and_eq_true, Bool.not_eq_true', Bool.and_eq_false_iff, Bool.or_eq_true, Bool.and_eq_true, Bool.and_eq_true, Bool.not_eq_true', Bool.not_eq_true', Bool.not_eq_true', beq_eq_false_iff_ne, beq_eq_false_iff_ne, beq_eq_false_iff_ne]
 constructor
 ·rintro ⟨⟨h1, h2⟩, h3⟩
  refine ⟨h1, fun h => ?_, fun h => ?_⟩
  ·rcases h2 with h2 | h2
   ·rw [h.1] at h2; cases h2
   ·exact h2 h.2
  ·rcases h3 with h3 | h3
   ·rw [h] at h3; cases h3
   ·exact ⟨h3.1.1, h3.1.2, h3.2⟩
 ·rintro ⟨h1, h2, h3⟩
  refine ⟨⟨h1, ?_⟩, ?_⟩
  ·cases hm : zJ a with
   | false => exact .inl rfl
   | true => exact .inr fun e => h2 ⟨hm, e⟩
  ·cases hs : zh (zR a) with
   | false => exact .inl rfl
   | true => have := h3 hs; exact .inr ⟨⟨this.1, this.2.1⟩, this.2.2⟩
theorem P7 {s : zI} (h : Z4 s = true) : zc s = 0 ↔ s = [48] := ⟨fun e => VP h e, fun e => by rw [e]; decide⟩
theorem iG {s : zI} (h : Z4 s = true) : zc s = 1 ↔ s = [49] := ⟨fun e => by
 have := ZG h
 rw [e, Zz (by omega)] at this
 exact this.symm, fun e => by rw [e]; decide⟩
structure NF (a o : zI) : Prop where
 f0 : Z8 o = false → Zy a = false
 f1 : Z8 o = true → 0 ≤ ZU o ∧ ZU o ≤ 99999999
 f2 : Z8 o = true → z8 o = [] → Zy a = !(zJ a && ZU o == 0) ∧ ZU o = (zc (zL (zR a)) : Int) ∧ zn a = 1
 f3 : Z8 o = true → z8 o ≠ [] → (z8 o).getD 0 0 ≠ 47 → Zy a = false
 f5 : Z8 o = true → (zJ a && ZU o == 0) = true → Zy a = false
 f6 : Z8 o = true → z8 o ≠ [] → (z8 o).getD 0 0 = 47 → Z8 ((z8 o).drop 1) = false → Zy a = false
 f7 : Z8 o = true → z8 o ≠ [] → (z8 o).getD 0 0 = 47 → Z8 ((z8 o).drop 1) = true →
  (Zy a = true ↔ (zJ a && ZU o == 0) = false ∧ z8 ((z8 o).drop 1) = [] ∧ 2 ≤ ZU ((z8 o).drop 1) ∧ Wz (ZU o) (ZU ((z8 o).drop 1)) = 1) ∧ ZU o = (zc (zL (zR a)) : Int) ∧ (Zy a = true → (zn a : Int) = ZU ((z8 o).drop 1))
 fr : zj a = bif zJ a then -(zc (zL (zR a)) : Int) else (zc (zL (zR a)) : Int)
theorem SE {a : zI} (h : Zy a = true) : Z8 (zR a) = true ∧ ZU (zR a) = (zc (zL (zR a)) : Int) ∧ z8 (zR a) = (bif zh (zR a) then 47 :: z6 (zR a) else []) := by
 obtain ⟨h1, h2, h3, h4⟩ := XE.1 h
 obtain ⟨g1, g2, g3⟩ := xH.1 h1
 have ht : wj (zR a) = zL (zR a) ∧ (zR a).drop (zL (zR a)).length = (bif zh (zR a) then 47 :: z6 (zR a) else []) := by
  cases hs : zh (zR a) with
  | false =>
   obtain ⟨c1, c2⟩ := Xt hs
   rw [c1] at g1 ⊢
   exact ⟨SQ g1, by simp⟩
  | true =>
   have he := Vb hs
   have e1 : wj (zR a) = zL (zR a) := by
    conv => lhs; rw [he]
    rw [Sp (Zs.1 g1).2.1]
    show zL (zR a) ++ [] = _
    rw [List.append_nil]
   refine ⟨e1, ?_⟩
   conv => lhs; arg 2; rw [he]
   rw [List.drop_left]
   rfl
 have ho : Z8 (zR a) = true := X2.2 (by rw [ht.1]; exact ⟨g1, h2⟩)
 obtain ⟨n1, n2, _⟩ := XP ho
 rw [ht.1] at n1 n2
 exact ⟨ho, n1, by rw [n2, ht.2]⟩
theorem Sv {a : zI} : zj a = (bif zJ a then -(zc (zL (zR a)) : Int) else (zc (zL (zR a)) : Int)) ∧ zn a = (bif zh (zR a) then zc (z6 (zR a)) else 1) := by
 obtain ⟨_, _, _, _, _, h6, h7⟩ := Yd a
 exact ⟨h6, h7⟩
theorem nf (a : zI) : NF a (zR a) := by
 obtain ⟨r1, r2⟩ := Sv (a := a)
 have neg : Z8 (zR a) = true → (zJ a && ZU (zR a) == 0) = true → Zy a = false := fun h hz => Bool.eq_false_iff.2 fun hb => by
  obtain ⟨_, n1, _⟩ := SE hb
  obtain ⟨h1, _⟩ := XE.1 hb
  obtain ⟨g1, g2, _⟩ := xH.1 h1
  rw [Bool.and_eq_true, beq_iff_eq, n1] at hz
  exact g2 ⟨hz.1, (P7 g1).1 (by omega)⟩
 have sm : Z8 (zR a) = true → z8 (zR a) ≠ [] → (z8 (zR a)).getD 0 0 = 47 → zL (zR a) = wj (zR a) ∧ z6 (zR a) = (z8 (zR a)).drop 1 ∧ zh (zR a) = true := fun h h1 h2 => by
  obtain ⟨n1, n2, n3, _⟩ := XP h
  have e : z8 (zR a) = 47 :: (z8 (zR a)).drop 1 := by
   match z8 (zR a), h1, h2 with
   | c :: r, _, h2 => rw [show c = 47 from h2]; rfl
  rw [e] at n3
  have := Uc (a := wj (zR a)) (b := (z8 (zR a)).drop 1) fun c hc => Uv (Nq _ c hc)
  rw [n3] at this
  exact this
 refine ⟨fun h => Bool.eq_false_iff.2 fun hb => ?_, fun h => (XP h).2.2.2, fun h h1 => ?_, fun h h1 h2 => Bool.eq_false_iff.2 fun hb => ?_, neg, fun h h1 h2 h3 => Bool.eq_false_iff.2 fun hb => ?_, fun h h1 h2 h3 => ?_, r1⟩
 ·rw [(SE hb).1] at h; cases h
 ·obtain ⟨b1, b2, b3⟩ := uc h h1
  obtain ⟨c1, c2, c3⟩ := NZ (s := zR a) fun i hi e => by
   have := (Zs.1 b1).2.1 _ (WV (s := zR a) (i := i) hi)
   rw [e] at this
   cases this
  rw [c2, r2, c1]
  refine ⟨?_, b3, rfl⟩
  rw [Bool.eq_iff_iff, XE, xH, c1, c2, c3, Bool.not_eq_true', b3]
  constructor
  ·rintro ⟨⟨_, g2, _⟩, _⟩
   rw [Bool.and_eq_false_iff]
   cases hm : zJ a with
   | false => exact .inl rfl
   | true => exact .inr (beq_eq_false_iff_ne.2 fun e => g2 ⟨hm, (P7 b1).1 (by omega)⟩)
  ·intro g
   refine ⟨⟨b1, fun g2 => ?_, fun e => by cases e⟩, b2, by simp, fun e => by cases e⟩
   rw [g2.1, g2.2] at g
   cases g
 ·have := (SE hb).2.2
  rw [this] at h1 h2
  cases hs : zh (zR a) with
  | false => rw [hs] at h1; exact h1 rfl
  | true => rw [hs] at h2; exact h2 rfl
 ·obtain ⟨c1, c2, c3⟩ := sm h h1 h2
  obtain ⟨k1, k2, k3, _⟩ := XE.1 hb
  have d1 := (xH.1 k1).2.2 c3
  rw [c2] at d1 k3
  rw [(RE d1.1 k3).1] at h3
  cases h3
 ·obtain ⟨c1, c2, c3⟩ := sm h h1 h2
  obtain ⟨n1, _, _, _⟩ := XP h
  obtain ⟨o1, o2⟩ := X2.1 h
  rw [c1, r2, c3, c2]
  obtain ⟨m1, _, _, m4, m5⟩ := XP h3
  have hgO : Wz (ZU (zR a)) (ZU ((z8 (zR a)).drop 1)) = (Nat.gcd (ZU (zR a)).toNat (ZU ((z8 (zR a)).drop 1)).toNat : Int) := by
   unfold Wz
   rw [(ZX _ _).2 (XP h).2.2.2.1, (ZX _ _).2 m4]
   rfl
  have key : Zy a = true ↔ (zJ a && ZU (zR a) == 0) = false ∧ z8 ((z8 (zR a)).drop 1) = [] ∧ 2 ≤ ZU ((z8 (zR a)).drop 1) ∧ Wz (ZU (zR a)) (ZU ((z8 (zR a)).drop 1)) = 1 := by
   rw [XE, xH, c1, c2, c3, hgO]
   constructor
   ·rintro ⟨⟨_, g2, g3⟩, g4, g5, g6⟩
    obtain ⟨g7, g8, g9⟩ := g3 rfl
    obtain ⟨q1, q2, q3⟩ := RE g7 g5
    have z0 : zc ((z8 (zR a)).drop 1) ≠ 0 := fun e => g8 ((P7 g7).1 e)
    have z1 : zc ((z8 (zR a)).drop 1) ≠ 1 := fun e => g9 ((iG g7).1 e)
    refine ⟨?_, q3, by omega, ?_⟩
    ·rw [Bool.and_eq_false_iff]
     cases hm : zJ a with
     | false => exact .inl rfl
     | true => exact .inr (beq_eq_false_iff_ne.2 fun e => g2 ⟨hm, (P7 o1).1 (by omega)⟩)
    ·rw [n1, q2, Int.toNat_natCast, Int.toNat_natCast, g6 rfl]; rfl
   ·rintro ⟨g1, g2, g3, g4⟩
    obtain ⟨q1, q2, q3⟩ := uc h3 g2
    have z0 : zc ((z8 (zR a)).drop 1) ≠ 0 := by omega
    have z1 : zc ((z8 (zR a)).drop 1) ≠ 1 := by omega
    refine ⟨⟨o1, fun e => ?_, fun _ => ⟨q1, fun e => z0 ((P7 q1).2 e), fun e => z1 ((iG q1).2 e)⟩⟩, o2, q2, fun _ => ?_⟩
    ·rw [e.1, n1, (P7 o1).2 e.2] at g1
     cases g1
    ·rw [n1, q3, Int.toNat_natCast, Int.toNat_natCast] at g4
     omega
  refine ⟨key, n1, fun hb => ?_⟩
  obtain ⟨_, g2, _⟩ := key.1 hb
  obtain ⟨q1, q2, q3⟩ := uc h3 g2
  rw [q3]
  rfl
noncomputable def gG : Tb := (T0.plus 91 SC).plus 92 SY
theorem Oz : zz Tryz.prog gG := zz.plus (zz.plus zo LJ) OE
def Kr (a : zI) (x y : yq) : yq := .join Int (fun σ _ => [(0, σ.tm 0), (2, σ.tm 2), (4, σ.tm 4), (5, σ.tm 5), (8, σ.tm 8)]) (fun σ z => [(1, .box 91 2 (zw [σ.tm 5, .i z]))]) 0
 (fun σ z => Zy a = true ∧ z = (zn a : Int) ∧ AV.int (σ.tm 5) = (zc (zL (zR a)) : Int)) x y
def kZ (a : zI) : yq := .two .auto (.two .auto (.two .auto (.two .auto (.split 7 .auto (.two .auto (Kr a (.two .auto (.two (.two .auto (.two .auto (.split 7 .auto .auto))) .auto)) .auto))))))
def VW : List AV → Option (List zk × AV)
 | [.str a] => some ([.p (a.length ≤ 9223372036854775807)], .tup 2 (zw [.agg 2 (zw [.i (bif Zy a then zj a else 0), .i (bif Zy a then (zn a : Int) else 0)]), .b (Zy a)]))
 | _ => none
theorem kv (a : List UInt8) (hl : a.length ≤ 9223372036854775807) :
 let q1 := (!zr true !a == bA #[] || zr true !a == bA #[]); let q2 := (zF (lZ (List.drop 1 a)) (lZ a)); let q4 := (True ∧ 2 = 2 ∧ (kI ∧ iZ = bif Zy a then zj a else iZ) ∧ kI ∧ iZ = bif Zy a then (cI (zn a)) else iZ); let q3 := (j2 ∧ q4 ∧ false = Zy a); let q5 := (lZ (z8 (List.drop 1 a))); let q7 := (bif !true then true else !z8 (List.drop 1 (z8
 (List.drop 1 a))) == bA #[]); let q6 := (!zr false q7 || zr false q7); let q10 := (ZU (List.drop 1 (z8 (List.drop 1 a)))); let q9 := (bif bif !true then true else !z8 (List.drop 1 (z8 (List.drop 1 a))) == bA #[] then true else zF q10 (2 : Int)); let q8 := (!zr false q9 || zr false q9); let q11 := (aI (ZU (List.drop 1 a))); let q12 := (kI ∧ ZU (List.drop 1 a) = ZU (List.drop 1 a)); let q13 := (91 = 91 ∧ 2 = 2 ∧ (kI ∧ iZ = iZ)
 ∧ kI ∧ iZ = iZ); let q14 := (bif bif !false then true else !z8 (List.drop 1 (z8 (List.drop 1 a))) == bA #[] then true else zF q10 (2 : Int)); let q15 := (zF (lZ a) (lZ a)); let q17 := (bif !true then true else !z8 (List.drop 1 (z8 a)) == bA #[]); let q16 := (!zr false q17 || zr false q17); let q19 := (bif bif !true then true else !z8 (List.drop 1 (z8 a)) == bA #[] then true else zF (ZU
 (List.drop 1 (z8 a))) (2 : Int)); let q18 := (!zr false q19 || zr false q19); let q20 := (bif bif !false then true else !z8 (List.drop 1 (z8 a)) == bA #[] then true else zF (ZU (List.drop 1 (z8 a))) (2 : Int)); Zv [AV.str a] → bF q1 (bF (!zr true !a == bA #[] || DB.db (iZ ≤ iZ ∧ iZ < (lZ a))) (bF q1 (bF (!!a == bA #[] || zr true !a == bA #[]) (zZ (bif
 !a == bA #[] then (cI (UInt8.toNat (gD a 0 (0 : UInt8)))) == (45 : Int) else false) (bF (DB.db (iZ ≤ iO ∧ iO ≤ (lZ a))) (lN (List.drop 1 a) ≤ nX ∧ zZ (Z8 (List.drop 1 a)) (bF (!(zr false !true && zr true q2) || zr false !true && zr true q2) (bF (!zr false !true || (!zF (lZ (List.drop 1 a)) (lZ a) || zr false !true && zr true q2)) (zZ (bif !true then true else bif zF (lZ (List.drop 1 a))
 (lZ a) then ZU (List.drop 1 a) == iZ else false) q3 (zZ (!z8 (List.drop 1 a) == bA #[]) (bF (DB.db (iZ ≤ iZ ∧ iZ < q5)) (zZ ((cI (UInt8.toNat (gD (z8 (List.drop 1 a)) 0 (0 : UInt8)))) != (47 : Int)) q3 (bF (DB.db (iZ ≤ iO ∧ iO ≤ q5)) (lN (List.drop 1 (z8 (List.drop 1 a))) ≤ nX ∧ zZ (Z8 (List.drop 1 (z8 (List.drop 1 a)))) (bF q6 (bF q6 (bF ((!!bif !true then true else !z8 (List.drop 1 (z8 (List.drop 1
 a))) == bA #[]) || zr false q7) (bF q8 (bF q8 (bF q8 ((zr false q9 = true → iZ ≤ ZU (List.drop 1 a) ∧ ZU (List.drop 1 a) ≤ iX) ∧ (zr false q9 = true → iZ ≤ ZU (List.drop 1 (z8 (List.drop 1 a))) ∧ ZU (List.drop 1 (z8 (List.drop 1 a))) ≤ iX) ∧ bF q8 (bF ((!!bif bif !true then true else !z8 (List.drop 1 (z8 (List.drop 1 a))) == bA #[] then true else zF q10 (2 : Int)) || zr false q9) (zZ (bif bif bif
 !true then true else !z8 (List.drop 1 (z8 (List.drop 1 a))) == bA #[] then true else zF q10 (2 : Int) then true else Wz (ZU (List.drop 1 a)) q10 != iO) q3 (∃ (z : Int), ((Zy a = true ∧ z = (cI (zn a)) ∧ AV.int q11 = (cI (zc (zL (zR a))))) ∧ a = a ∧ (nat_lit 0 = 0 ∧ 0 = 0) ∧ List.drop 1 a = List.drop 1 a ∧ q12 ∧ nat_lit 1 = 1 ∧ 0 = 0) ∧ q13 ∧ (91 : TypeId) = 91 ∧ 2 = 2 ∧ q12 ∧ kI ∧ ZU (List.drop 1 (z8 (List.drop 1 a))) = z)))))))))) ((zr false q14 =
 true → iZ ≤ ZU (List.drop 1 a) ∧ ZU (List.drop 1 a) ≤ iX) ∧ (zr false q14 = true → iZ ≤ ZU (List.drop 1 (z8 (List.drop 1 a))) ∧ ZU (List.drop 1 (z8 (List.drop 1 a))) ≤ iX) ∧ j2 ∧ q4 ∧ false = Zy a))))) (∃ (z : Int), ((Zy a = true ∧ z = (cI (zn a)) ∧ AV.int q11 = (cI (zc (zL (zR a))))) ∧ a = a ∧ (nat_lit 0 = 0 ∧ 0 = 0) ∧ List.drop 1 a = List.drop 1 a ∧ q12 ∧ nat_lit 1 = 1 ∧ 0 = 0) ∧ q13 ∧ (91 : TypeId) = 91 ∧ 2 = 2 ∧ q12 ∧ kI ∧ iO =
 z) ∧ ∀ (z : Int), Zy a = true ∧ z = (cI (zn a)) ∧ AV.int q11 = (cI (zc (zL (zR a)))) → zZ q2 (bF (dK (-ZU (List.drop 1 a))) (j2 ∧ (True ∧ 2 = 2 ∧ (kI ∧ -ZU (List.drop 1 a) = bif Zy a then zj a else iZ) ∧ kI ∧ z = bif Zy a then (cI (zn a)) else iZ) ∧ true = Zy a)) (j2 ∧ (True ∧ 2 = 2 ∧ (kI ∧ ZU (List.drop 1 a) = bif Zy a then zj a else iZ) ∧ kI ∧ z = bif Zy a then (↑(zn a) :
 Int) else iZ) ∧ true = Zy a))))) q3)) (lN a ≤ nX ∧ zZ (Z8 a) (bF (!(zr false !true && zr true q15) || zr false !true && zr true q15) (bF (!zr false !true || (!zF (lZ a) (lZ a) || zr false !true && zr true q15)) (zZ (bif !true then true else bif zF (lZ a) (lZ a) then ZU a == iZ else false) q3 (zZ (!z8 a == bA #[]) (bF (DB.db (iZ ≤ iZ ∧ iZ < (cI (List.length
 (z8 a))))) (zZ ((cI (UInt8.toNat (gD (z8 a) 0 (0 : UInt8)))) != (47 : Int)) q3 (bF (DB.db (iZ ≤ iO ∧ iO ≤ (lZ (z8 a)))) (lN (List.drop 1 (z8 a)) ≤ nX ∧ zZ (Z8 (List.drop 1 (z8 a))) (bF q16 (bF q16 (bF ((!!bif !true then true else !z8 (List.drop 1 (z8 a)) == bA #[]) || zr false q17) (bF q18 (bF q18 (bF q18 ((zr false q19 = true → iZ ≤ ZU a ∧ ZU a ≤ iX) ∧ (zr false q19 = true → (0
 : Int) ≤ ZU (List.drop 1 (z8 a)) ∧ ZU (List.drop 1 (z8 a)) ≤ iX) ∧ bF q18 (bF ((!!bif bif !true then true else !z8 (List.drop 1 (z8 a)) == bA #[] then true else zF (ZU (List.drop 1 (z8 a))) (2 : Int)) || zr false q19) (zZ (bif bif bif !true then true else !z8 (List.drop 1 (z8 a)) == bA #[] then true else zF (ZU (List.drop 1 (z8 a))) (2 : Int) then true else Wz (ZU a) (ZU (List.drop 1 (z8 a))) != iO) q3 (∃ (z : Int), ((Zy a = true ∧
 z = (cI (zn a)) ∧ AV.int (aI (ZU a)) = (cI (zc (zL (zR a))))) ∧ a = a ∧ (nat_lit 0 = 0 ∧ 0 = 0) ∧ a = a ∧ (kI ∧ ZU a = ZU a) ∧ nat_lit 1 = 1 ∧ 0 = 0) ∧ q13 ∧ (91 : TypeId) = 91 ∧ 2 = 2 ∧ (kI ∧ ZU a = ZU a) ∧ kI ∧ ZU (List.drop 1 (z8 a)) = z)))))))))) ((zr false q20 = true → iZ ≤ ZU a ∧ ZU a ≤ iX) ∧ (zr false q20 = true → iZ ≤ ZU (List.drop 1 (z8 a)) ∧ ZU (List.drop 1 (z8 a)) ≤ (9223372036854775807
 : Int)) ∧ j2 ∧ q4 ∧ false = Zy a))))) (∃ (z : Int), ((Zy a = true ∧ z = (cI (zn a)) ∧ AV.int (aI (ZU a)) = (cI (zc (zL (zR a))))) ∧ a = a ∧ (nat_lit 0 = 0 ∧ 0 = 0) ∧ a = a ∧ (kI ∧ ZU a = ZU a) ∧ nat_lit 1 = 1 ∧ 0 = 0) ∧ q13 ∧ (91 : TypeId) = 91 ∧ 2 = 2 ∧ (kI ∧ ZU a = ZU a) ∧ kI ∧ iO = z) ∧ ∀ (z : Int), Zy a = true ∧ z = (cI (zn a)) ∧ AV.int (aI (ZU a)) = (cI (zc (zL (zR a)))) → zZ q15 (bF (DB.db (ZA
 .i64 (-ZU a))) (j2 ∧ (True ∧ 2 = 2 ∧ (kI ∧ -ZU a = bif Zy a then zj a else iZ) ∧ kI ∧ z = bif Zy a then (cI (zn a)) else iZ) ∧ true = Zy a)) (j2 ∧ (True ∧ 2 = 2 ∧ (kI ∧ ZU a = bif Zy a then zj a else iZ) ∧ kI ∧ z = bif Zy a then (cI (zn a)) else iZ) ∧ true = Zy a))))) q3))))) := by
 delta bF dK bA nX cI kI j2 lZ lN gD iZ iO iX aI
 dsimp only
 intro hb
 simp only [sS, dS, xN]
 have em : (!(a == []) && ((a.getD 0 0).toNat : Int) == 45) = zJ a := by
  rw [show (((a.getD 0 0).toNat : Int) == 45) = (a.getD 0 0 == 45) from vJ (a.getD 0 0) 45 (by decide)]
  unfold zJ
  match a with
  | [] => rfl
  | c :: r => simp
 have e47 : ∀ c : UInt8, ((c.toNat : Int) = 47) ↔ c = 47 := fun c => by
  have := vJ c 47 (by decide)
  rw [Bool.eq_iff_iff, beq_iff_eq, beq_iff_eq] at this
  exact this
 have bad : Zy a = false → 2 = [AV.junk, AV.junk].length ∧ ((0 = bif Zy a then zj a else 0) ∧ 0 = bif Zy a then (zn a : Int) else 0) ∧ false = Zy a := fun h => by rw [h]; exact ⟨rfl, ⟨rfl, rfl⟩, rfl⟩
 have rb : ∀ s : zI, Z8 s = true → 0 ≤ ZU s ∧ ZU s ≤ 9223372036854775807 := fun s h => by have := (XP h).2.2.2; omega
 have F := nf a
 rw [em]
 simp only [e47, ne_eq]
 have hpos : (!(a == [])) = true → 0 < a.length := fun h => by
  match a, h with
  | c :: r, _ => simp
 refine ⟨fun h => ⟨Int.le_refl _, by have := hpos h; omega⟩, zY.2 ⟨fun c => ?_, fun c => ?_⟩⟩
 ·have hown : zR a = a.drop 1 := by unfold zR; rw [c]; rfl
  have hl1 := (qK c).2
  have hlt : zF ((a.drop 1).length : Int) (a.length : Int) = zJ a := by rw [c, zp, List.length_drop]; omega
  rw [hown] at F
  refine ⟨⟨by omega, by omega⟩, by rw [List.length_drop]; omega, ?_⟩
  generalize ho : a.drop 1 = o at *
  have hlo : o.length ≤ a.length := by rw [← ho, List.length_drop]; omega
  have hgt : (o.length : Int) < (a.length : Int) ↔ zJ a = true := by rw [← hlt, zp]
  rw [hlt]
  refine zY.2 ⟨fun k => ?_, fun k => bad (F.f0 k)⟩
  refine Uz (by cases zJ a <;> rfl) ?_
  have hb1 := rb _ k
  refine zY.2 ⟨fun k2 => bad (F.f5 k (by simpa using k2)), fun k2 => ⟨zY.2 ⟨fun k3 => ?_, fun k3 => ?_⟩, fun z hz => ?_⟩⟩
  ·have k4 : z8 o ≠ [] := by simpa using k3
   have k5 : 0 < (z8 o).length := Nat.pos_of_ne_zero fun e => k4 (List.eq_nil_of_length_eq_zero e)
   have k6 : (z8 o).length ≤ o.length := by
    obtain ⟨_, _, h3, _⟩ := XP k
    have := congrArg List.length h3
    rw [List.length_append] at this
    omega
   refine ⟨⟨by omega, by omega⟩, fun hne => bad (F.f3 k k4 hne), fun he => ⟨⟨by omega, by omega⟩, by rw [List.length_drop]; omega, zY.2 ⟨fun k7 => ?_, fun k7 => ?_⟩⟩⟩
   ·obtain ⟨i1, i2, i3⟩ := F.f7 k k4 he k7
    refine ⟨fun _ => hb1, fun _ => rb _ k7, zY.2 ⟨fun k8 => bad (Bool.eq_false_iff.2 fun hb => ?_), fun k8 => ?_⟩⟩
    ·obtain ⟨j1, j2, j3, j4⟩ := i1.1 hb
     rw [j2, j4, show zF (ZU ((z8 o).drop 1)) 2 = false from Bool.eq_false_iff.2 fun e => by have := (zp _ _).1 e; omega] at k8
     cases k8
    ·have hb : Zy a = true := i1.2 (by
      rw [Bool.or_eq_false_iff, Bool.or_eq_false_iff] at k8
      obtain ⟨⟨q1, q2⟩, q3⟩ := k8
      refine ⟨by simpa using k2, by simpa using q1, ?_, by simpa using q3⟩
      refine Decidable.byContradiction fun hn => ?_
      rw [(zp _ _).2 (by omega)] at q2
      cases q2)
     exact ⟨_, ⟨hb, (i3 hb).symm, i2⟩, rfl⟩
   ·exact ⟨fun h => by simp at h, fun h => by simp at h, bad (F.f6 k k4 he k7)⟩
  ·have k4 : z8 o = [] := by simpa using k3
   obtain ⟨i1, i2, i3⟩ := F.f2 k k4
   have k2' : (zJ a && ZU o == 0) = false := k2
   have hb : Zy a = true := by rw [i1, k2']; rfl
   exact ⟨1, ⟨hb, by rw [i3]; rfl, i2⟩, rfl⟩
  ·obtain ⟨z1, z2, z3⟩ := hz
   have fr := F.fr
   rw [← z3] at fr
   refine ⟨fun hh => ⟨⟨by omega, by omega⟩, rfl, ⟨?_, ?_⟩, z1.symm⟩, fun hh => ⟨rfl, ⟨?_, ?_⟩, z1.symm⟩⟩
   ·rw [z1, fr, hgt.1 hh]; rfl
   ·rw [z1]; exact z2
   ·have : zJ a = false := Bool.eq_false_iff.2 fun e => by have := hgt.2 e; omega
    rw [z1, fr, this]; rfl
   ·rw [z1]; exact z2
 ·have hown : zR a = a := by unfold zR; rw [c]; rfl
  have hlt : zF (a.length : Int) (a.length : Int) = zJ a := by rw [c, Bool.eq_false_iff, Ne, zp]; omega
  rw [hown] at F
  have hlo : a.length ≤ a.length := Nat.le_refl _
  have hgt : (a.length : Int) < (a.length : Int) ↔ zJ a = true := by rw [← hlt, zp]
  refine ⟨by omega, ?_⟩
  rw [hlt]
  refine zY.2 ⟨fun k => ?_, fun k => bad (F.f0 k)⟩
  refine Uz (by cases zJ a <;> rfl) ?_
  have hb1 := rb _ k
  refine zY.2 ⟨fun k2 => bad (F.f5 k (by simpa using k2)), fun k2 => ⟨zY.2 ⟨fun k3 => ?_, fun k3 => ?_⟩, fun z hz => ?_⟩⟩
  ·have k4 : z8 a ≠ [] := by simpa using k3
   have k5 : 0 < (z8 a).length := Nat.pos_of_ne_zero fun e => k4 (List.eq_nil_of_length_eq_zero e)
   have k6 : (z8 a).length ≤ a.length := by
    obtain ⟨_, _, h3, _⟩ := XP k
    have := congrArg List.length h3
    rw [List.length_append] at this
    omega
   refine ⟨⟨by omega, by omega⟩, fun hne => bad (F.f3 k k4 hne), fun he => ⟨⟨by omega, by omega⟩, by rw [List.length_drop]; omega, zY.2 ⟨fun k7 => ?_, fun k7 => ?_⟩⟩⟩
   ·obtain ⟨i1, i2, i3⟩ := F.f7 k k4 he k7
    refine ⟨fun _ => hb1, fun _ => rb _ k7, zY.2 ⟨fun k8 => bad (Bool.eq_false_iff.2 fun hb => ?_), fun k8 => ?_⟩⟩
    ·obtain ⟨j1, j2, j3, j4⟩ := i1.1 hb
     rw [j2, j4, show zF (ZU ((z8 a).drop 1)) 2 = false from Bool.eq_false_iff.2 fun e => by have := (zp _ _).1 e; omega] at k8
     cases k8
    ·have hb : Zy a = true := i1.2 (by
      rw [Bool.or_eq_false_iff, Bool.or_eq_false_iff] at k8
      obtain ⟨⟨q1, q2⟩, q3⟩ := k8
      refine ⟨by simpa using k2, by simpa using q1, ?_, by simpa using q3⟩
      refine Decidable.byContradiction fun hn => ?_
      rw [(zp _ _).2 (by omega)] at q2
      cases q2)
     exact ⟨_, ⟨hb, (i3 hb).symm, i2⟩, rfl⟩
   ·exact ⟨fun h => by simp at h, fun h => by simp at h, bad (F.f6 k k4 he k7)⟩
  ·have k4 : z8 a = [] := by simpa using k3
   obtain ⟨i1, i2, i3⟩ := F.f2 k k4
   have k2' : (zJ a && ZU a == 0) = false := k2
   have hb : Zy a = true := by rw [i1, k2']; rfl
   exact ⟨1, ⟨hb, by rw [i3]; rfl, i2⟩, rfl⟩
  ·obtain ⟨z1, z2, z3⟩ := hz
   have fr := F.fr
   rw [← z3] at fr
   refine ⟨fun hh => ⟨⟨by omega, by omega⟩, rfl, ⟨?_, ?_⟩, z1.symm⟩, fun hh => ⟨rfl, ⟨?_, ?_⟩, z1.symm⟩⟩
   ·rw [z1, fr, hgt.1 hh]; rfl
   ·rw [z1]; exact z2
   ·have : zJ a = false := Bool.eq_false_iff.2 fun e => by have := hgt.2 e; omega
    rw [z1, fr, this]; rfl
   ·rw [z1]; exact z2
theorem mT (a : List UInt8) (hl : a.length ≤ 9223372036854775807) : zU Tryz.prog [] 55 [.str a] (.tup 2 (zw [.agg 2 (zw [.i (bif Zy a then zj a else 0), .i (bif Zy a then (zn a : Int) else 0)]), .b (Zy a)])) :=
 zW (T := gG) (an := kZ a) mixed Oz (Eq.mp (by kernel_rfl) (kv a hl))
theorem sx : zO Tryz.prog [] 55 VW := by
 intro xs ps r h hp
 unfold VW at h
 split at h
 ·skip
  rename_i a
  cases h
  obtain ⟨q0, -⟩ := ZH hp
  exact weaken (ys := [.str a]) ⟨zT _, trivial⟩ (mT a q0)
 ·cases h
end Go.Te
