/- rational: nativeOf. -/
import Derived.Test.YthbpnknhfokadaaGreatDoorThS
set_option linter.unusedSimpArgs false
set_option linter.unusedVariables false
namespace Go.Te
open Go Go.Sx Go.Proofs Go.Ar
set_option maxRecDepth 100000
set_option maxHeartbeats 4000000
def Zz (a : zj) : Bool := zh a == 0 && leB ((zO (zR a)).length : Int) 8 && leB ((zb (zR a)).length : Int) 8
theorem tW (s : zj) : wO s ++ s.drop (wO s).length = s := by
 have h : s = s.takeWhile Zd ++ s.dropWhile Zd := (List.takeWhile_append_dropWhile).symm
 have gen : ∀ t u : zj, t ++ u = s → s.drop t.length = u := by
  rintro t u rfl
  exact List.drop_left
 have h2 : s.drop (wO s).length = s.dropWhile Zd := gen _ _ h.symm
 rw [h2]
 exact h.symm
theorem Na (s : zj) : ∀ c ∈ wO s, Zd c = true := fun c hc => List.all_eq_true.1 (List.all_takeWhile (l := s) (p := Zd)) c hc
theorem XJ {s : zj} : Z5 s = true ↔ Z1 (wO s) = true ∧ (wO s).length ≤ 8 := by
 unfold Z5
 rw [Bool.and_eq_true, ZY]
 exact ⟨fun h => ⟨h.1, by omega⟩, fun h => ⟨h.1, by omega⟩⟩
theorem Xt {s : zj} (h : Z5 s = true) : ZU s = (ze (wO s) : Int) ∧ zA s = s.drop (wO s).length ∧ wO s ++ zA s = s ∧ 0 ≤ ZU s ∧ ZU s ≤ 99999999 := by
 have e1 : ZU s = (ze (wO s) : Int) := by unfold ZU; rw [h]; rfl
 have e2 : zA s = s.drop (wO s).length := by unfold zA; rw [h]; rfl
 obtain ⟨h1, h2⟩ := XJ.1 h
 have b := vX h1 (k := 8) h2
 rw [show 10 ^ 8 = 100000000 from by decide] at b
 exact ⟨e1, e2, by rw [e2]; exact tW s, by omega, by omega⟩
theorem sj {s : zj} (h : Z1 s = true) : wO s = s := by
 have := SK (a := s) (b := []) (Zr.1 h).2.1
 rw [List.append_nil] at this
 rw [this]
 show s ++ [] = s
 simp
theorem Rt {s : zj} (h : Z1 s = true) (hl : s.length ≤ 8) : Z5 s = true ∧ ZU s = (ze s : Int) ∧ zA s = [] := by
 have ht := sj h
 have ho : Z5 s = true := XJ.2 (by rw [ht]; exact ⟨h, hl⟩)
 obtain ⟨n1, n2, _⟩ := Xt ho
 rw [ht] at n1 n2
 exact ⟨ho, n1, by rw [n2]; simp⟩
theorem Uq {s : zj} (h : Z5 s = true) (hr : zA s = []) : Z1 s = true ∧ s.length ≤ 8 ∧ ZU s = (ze s : Int) := by
 obtain ⟨n1, n2, n3, _⟩ := Xt h
 rw [hr, List.append_nil] at n3
 obtain ⟨h1, h2⟩ := XJ.1 h
 rw [n3] at h1 h2 n1
 exact ⟨h1, h2, n1⟩
theorem X2 {a : zj} : Zz a = true ↔ WX a = true ∧ (zO (zR a)).length ≤ 8 ∧ (zb (zR a)).length ≤ 8 ∧ (zJ (zR a) = true → Nat.gcd (ze (zO (zR a))) (ze (zb (zR a))) = 1) := by
 unfold Zz
 rw [Bool.and_eq_true, Bool.and_eq_true, ZY, ZY, beq_iff_eq]
 constructor
 ·rintro ⟨⟨h1, h2⟩, h3⟩
  cases hf : WX a with
  | false => rw [RE hf] at h1; cases h1
  | true =>
   refine ⟨rfl, by omega, by omega, fun hs => ?_⟩
   rw [U3 hf ⟨by omega, by omega⟩ hs] at h1
   cases hg : Nat.beq (Nat.gcd (ze (zO (zR a))) (ze (zb (zR a)))) 1 with
   | true => exact Nat.eq_of_beq_eq_true hg
   | false => rw [hg] at h1; cases h1
 ·rintro ⟨h1, h2, h3, h4⟩
  refine ⟨⟨?_, by omega⟩, by omega⟩
  cases hs : zJ (zR a) with
  | false => exact RL h1 (by omega) hs
  | true =>
   rw [U3 h1 ⟨by omega, by omega⟩ hs, h4 hs]
   rfl
theorem xL {a : zj} : WX a = true ↔ Z1 (zO (zR a)) = true ∧ ¬ (zL a = true ∧ zO (zR a) = [48]) ∧ (zJ (zR a) = true → Z1 (zb (zR a)) = true ∧ zb (zR a) ≠ [48] ∧ zb (zR a) ≠ [49]) := by
 unfold WX
 rw [Bool.and_eq_true, Bool.and_eq_true, Bool.not_eq_true', Bool.and_eq_false_iff, Bool.or_eq_true, Bool.and_eq_true, Bool.and_eq_true, Bool.not_eq_true', Bool.not_eq_true', Bool.not_eq_true', beq_eq_false_iff_ne, beq_eq_false_iff_ne, beq_eq_false_iff_ne]
 constructor
 ·rintro ⟨⟨h1, h2⟩, h3⟩
  refine ⟨h1, fun h => ?_, fun h => ?_⟩
  ·rcases h2 with h2 | h2
   ·rw [h.1] at h2; cases h2
   ·exact h2 h.2
  ·rcases h3 with h3 | h3
   ·rw [h] at h3; cases h3
   ·exact ⟨h3.1.1, h3.1.2, h3.2⟩
 ·rintro ⟨h1, h2, h3⟩
  refine ⟨⟨h1, ?_⟩, ?_⟩
  ·cases hm : zL a with
   | false => exact .inl rfl
   | true => exact .inr fun e => h2 ⟨hm, e⟩
  ·cases hs : zJ (zR a) with
   | false => exact .inl rfl
   | true => have := h3 hs; exact .inr ⟨⟨this.1, this.2.1⟩, this.2.2⟩
theorem o9 {s : zj} (h : Z1 s = true) : ze s = 0 ↔ s = [48] := ⟨fun e => Vj h e, fun e => by rw [e]; decide⟩
theorem Hu {s : zj} (h : Z1 s = true) : ze s = 1 ↔ s = [49] := ⟨fun e => by
 have := ZG h
 rw [e, z8 (by omega)] at this
 exact this.symm, fun e => by rw [e]; decide⟩
structure NF (a o : zj) : Prop where
 f0 : Z5 o = false → Zz a = false
 f1 : Z5 o = true → 0 ≤ ZU o ∧ ZU o ≤ 99999999
 f2 : Z5 o = true → zA o = [] → Zz a = !(zL a && ZU o == 0) ∧ ZU o = (ze (zO (zR a)) : Int) ∧ zP a = 1
 f3 : Z5 o = true → zA o ≠ [] → (zA o).getD 0 0 ≠ 47 → Zz a = false
 f5 : Z5 o = true → (zL a && ZU o == 0) = true → Zz a = false
 f6 : Z5 o = true → zA o ≠ [] → (zA o).getD 0 0 = 47 → Z5 ((zA o).drop 1) = false → Zz a = false
 f7 : Z5 o = true → zA o ≠ [] → (zA o).getD 0 0 = 47 → Z5 ((zA o).drop 1) = true →
  (Zz a = true ↔ (zL a && ZU o == 0) = false ∧ zA ((zA o).drop 1) = [] ∧ 2 ≤ ZU ((zA o).drop 1) ∧ Wv (ZU o) (ZU ((zA o).drop 1)) = 1) ∧ ZU o = (ze (zO (zR a)) : Int) ∧ (Zz a = true → (zP a : Int) = ZU ((zA o).drop 1))
 fr : zM a = bif zL a then -(ze (zO (zR a)) : Int) else (ze (zO (zR a)) : Int)
theorem ry {a : zj} (h : Zz a = true) : Z5 (zR a) = true ∧ ZU (zR a) = (ze (zO (zR a)) : Int) ∧ zA (zR a) = (bif zJ (zR a) then 47 :: zb (zR a) else []) := by
 obtain ⟨h1, h2, h3, h4⟩ := X2.1 h
 obtain ⟨g1, g2, g3⟩ := xL.1 h1
 have ht : wO (zR a) = zO (zR a) ∧ (zR a).drop (zO (zR a)).length = (bif zJ (zR a) then 47 :: zb (zR a) else []) := by
  cases hs : zJ (zR a) with
  | false =>
   obtain ⟨c1, c2⟩ := XS hs
   rw [c1] at g1 ⊢
   exact ⟨sj g1, by simp⟩
  | true =>
   have he := uW hs
   have e1 : wO (zR a) = zO (zR a) := by
    conv => lhs; rw [he]
    rw [SK (Zr.1 g1).2.1]
    show zO (zR a) ++ [] = _
    rw [List.append_nil]
   refine ⟨e1, ?_⟩
   conv => lhs; arg 2; rw [he]
   rw [List.drop_left]
   rfl
 have ho : Z5 (zR a) = true := XJ.2 (by rw [ht.1]; exact ⟨g1, h2⟩)
 obtain ⟨n1, n2, _⟩ := Xt ho
 rw [ht.1] at n1 n2
 exact ⟨ho, n1, by rw [n2, ht.2]⟩
theorem Sv {a : zj} : zM a = (bif zL a then -(ze (zO (zR a)) : Int) else (ze (zO (zR a)) : Int)) ∧ zP a = (bif zJ (zR a) then ze (zb (zR a)) else 1) := by
 obtain ⟨_, _, _, _, _, h6, h7⟩ := Yf a
 exact ⟨h6, h7⟩
theorem nf (a : zj) : NF a (zR a) := by
 obtain ⟨r1, r2⟩ := Sv (a := a)
 have neg : Z5 (zR a) = true → (zL a && ZU (zR a) == 0) = true → Zz a = false := fun h hz => Bool.eq_false_iff.2 fun hb => by
  obtain ⟨_, n1, _⟩ := ry hb
  obtain ⟨h1, _⟩ := X2.1 hb
  obtain ⟨g1, g2, _⟩ := xL.1 h1
  rw [Bool.and_eq_true, beq_iff_eq, n1] at hz
  exact g2 ⟨hz.1, (o9 g1).1 (by omega)⟩
 have sm : Z5 (zR a) = true → zA (zR a) ≠ [] → (zA (zR a)).getD 0 0 = 47 → zO (zR a) = wO (zR a) ∧ zb (zR a) = (zA (zR a)).drop 1 ∧ zJ (zR a) = true := fun h h1 h2 => by
  obtain ⟨n1, n2, n3, _⟩ := Xt h
  have e : zA (zR a) = 47 :: (zA (zR a)).drop 1 := by
   match zA (zR a), h1, h2 with
   | c :: r, _, h2 => rw [show c = 47 from h2]; rfl
  rw [e] at n3
  have := Ul (a := wO (zR a)) (b := (zA (zR a)).drop 1) fun c hc => U9 (Na _ c hc)
  rw [n3] at this
  exact this
 refine ⟨fun h => Bool.eq_false_iff.2 fun hb => ?_, fun h => (Xt h).2.2.2, fun h h1 => ?_, fun h h1 h2 => Bool.eq_false_iff.2 fun hb => ?_, neg, fun h h1 h2 h3 => Bool.eq_false_iff.2 fun hb => ?_, fun h h1 h2 h3 => ?_, r1⟩
 ·rw [(ry hb).1] at h; cases h
 ·obtain ⟨b1, b2, b3⟩ := Uq h h1
  obtain ⟨c1, c2, c3⟩ := N5 (s := zR a) fun i hi e => by
   have := (Zr.1 b1).2.1 _ (w9 (s := zR a) (i := i) hi)
   rw [e] at this
   cases this
  rw [c2, r2, c1]
  refine ⟨?_, b3, rfl⟩
  rw [Bool.eq_iff_iff, X2, xL, c1, c2, c3, Bool.not_eq_true', b3]
  constructor
  ·rintro ⟨⟨_, g2, _⟩, _⟩
   rw [Bool.and_eq_false_iff]
   cases hm : zL a with
   | false => exact .inl rfl
   | true => exact .inr (beq_eq_false_iff_ne.2 fun e => g2 ⟨hm, (o9 b1).1 (by omega)⟩)
  ·intro g
   refine ⟨⟨b1, fun g2 => ?_, fun e => by cases e⟩, b2, by simp, fun e => by cases e⟩
   rw [g2.1, g2.2] at g
   cases g
 ·have := (ry hb).2.2
  rw [this] at h1 h2
  cases hs : zJ (zR a) with
  | false => rw [hs] at h1; exact h1 rfl
  | true => rw [hs] at h2; exact h2 rfl
 ·obtain ⟨c1, c2, c3⟩ := sm h h1 h2
  obtain ⟨k1, k2, k3, _⟩ := X2.1 hb
  have d1 := (xL.1 k1).2.2 c3
  rw [c2] at d1 k3
  rw [(Rt d1.1 k3).1] at h3
  cases h3
 ·obtain ⟨c1, c2, c3⟩ := sm h h1 h2
  obtain ⟨n1, _, _, _⟩ := Xt h
  obtain ⟨o1, o2⟩ := XJ.1 h
  rw [c1, r2, c3, c2]
  obtain ⟨m1, _, _, m4, m5⟩ := Xt h3
  have hgO : Wv (ZU (zR a)) (ZU ((zA (zR a)).drop 1)) = (Nat.gcd (ZU (zR a)).toNat (ZU ((zA (zR a)).drop 1)).toNat : Int) := by
   unfold Wv
   rw [(ZY _ _).2 (Xt h).2.2.2.1, (ZY _ _).2 m4]
   rfl
  have key : Zz a = true ↔ (zL a && ZU (zR a) == 0) = false ∧ zA ((zA (zR a)).drop 1) = [] ∧ 2 ≤ ZU ((zA (zR a)).drop 1) ∧ Wv (ZU (zR a)) (ZU ((zA (zR a)).drop 1)) = 1 := by
   rw [X2, xL, c1, c2, c3, hgO]
   constructor
   ·rintro ⟨⟨_, g2, g3⟩, g4, g5, g6⟩
    obtain ⟨g7, g8, g9⟩ := g3 rfl
    obtain ⟨q1, q2, q3⟩ := Rt g7 g5
    have z0 : ze ((zA (zR a)).drop 1) ≠ 0 := fun e => g8 ((o9 g7).1 e)
    have z1 : ze ((zA (zR a)).drop 1) ≠ 1 := fun e => g9 ((Hu g7).1 e)
    refine ⟨?_, q3, by omega, ?_⟩
    ·rw [Bool.and_eq_false_iff]
     cases hm : zL a with
     | false => exact .inl rfl
     | true => exact .inr (beq_eq_false_iff_ne.2 fun e => g2 ⟨hm, (o9 o1).1 (by omega)⟩)
    ·rw [n1, q2, Int.toNat_natCast, Int.toNat_natCast, g6 rfl]; rfl
   ·rintro ⟨g1, g2, g3, g4⟩
    obtain ⟨q1, q2, q3⟩ := Uq h3 g2
    have z0 : ze ((zA (zR a)).drop 1) ≠ 0 := by omega
    have z1 : ze ((zA (zR a)).drop 1) ≠ 1 := by omega
    refine ⟨⟨o1, fun e => ?_, fun _ => ⟨q1, fun e => z0 ((o9 q1).2 e), fun e => z1 ((Hu q1).2 e)⟩⟩, o2, q2, fun _ => ?_⟩
    ·rw [e.1, n1, (o9 o1).2 e.2] at g1
     cases g1
    ·rw [n1, q3, Int.toNat_natCast, Int.toNat_natCast] at g4
     omega
  refine ⟨key, n1, fun hb => ?_⟩
  obtain ⟨_, g2, _⟩ := key.1 hb
  obtain ⟨q1, q2, q3⟩ := Uq h3 g2
  rw [q3]
  rfl
noncomputable def GO : Tb := (T0.plus 91 sC).plus 92 rU
theorem Og : zz Tryz.prog GO := zz.plus (zz.plus zQ kp) nt
def Lk (a : zj) (x y : yS) : yS := .join Int (fun σ _ => [(0, σ.tm 0), (2, σ.tm 2), (4, σ.tm 4), (5, σ.tm 5), (8, σ.tm 8)]) (fun σ z => [(1, .box 91 2 (zw [σ.tm 5, .i z]))]) 0
 (fun σ z => Zz a = true ∧ z = (zP a : Int) ∧ AV.int (σ.tm 5) = (ze (zO (zR a)) : Int)) x y
def Ln (a : zj) : yS := .two .auto (.two .auto (.two .auto (.two .auto (.split 7 .auto (.two .auto (Lk a (.two .auto (.two (.two .auto (.two .auto (.split 7 .auto .auto))) .auto)) .auto))))))
def VE : List AV → Option (List zn × AV)
 | [.str a] => some ([.p (a.length ≤ 9223372036854775807)], .tup 2 (zw [.agg 2 (zw [.i (bif Zz a then zM a else 0), .i (bif Zz a then (zP a : Int) else 0)]), .b (Zz a)]))
 | _ => none
theorem KR (a : List UInt8) (hl : a.length ≤ 9223372036854775807) :
 let q1 := (!zS true !a == bA #[] || zS true !a == bA #[]); let q2 := (zg (lZ (List.drop 1 a)) (lZ a)); let q4 := (True ∧ 2 = 2 ∧ (kI ∧ iZ = bif Zz a then zM a else iZ) ∧ kI ∧ iZ = bif Zz a then (cI (zP a)) else iZ); let q3 := (j2 ∧ q4 ∧ false = Zz a); let q5 := (lZ (zA (List.drop 1 a))); let q7 := (bif !true then true else !zA (List.drop 1 (zA
 (List.drop 1 a))) == bA #[]); let q6 := (!zS false q7 || zS false q7); let q10 := (ZU (List.drop 1 (zA (List.drop 1 a)))); let q9 := (bif bif !true then true else !zA (List.drop 1 (zA (List.drop 1 a))) == bA #[] then true else zg q10 (2 : Int)); let q8 := (!zS false q9 || zS false q9); let q11 := (aI (ZU (List.drop 1 a))); let q12 := (kI ∧ ZU (List.drop 1 a) = ZU (List.drop 1 a)); let q13 := (91 = 91 ∧ 2 = 2 ∧ (kI ∧ iZ = iZ)
 ∧ kI ∧ iZ = iZ); let q14 := (bif bif !false then true else !zA (List.drop 1 (zA (List.drop 1 a))) == bA #[] then true else zg q10 (2 : Int)); let q15 := (zg (lZ a) (lZ a)); let q17 := (bif !true then true else !zA (List.drop 1 (zA a)) == bA #[]); let q16 := (!zS false q17 || zS false q17); let q19 := (bif bif !true then true else !zA (List.drop 1 (zA a)) == bA #[] then true else zg (ZU
 (List.drop 1 (zA a))) (2 : Int)); let q18 := (!zS false q19 || zS false q19); let q20 := (bif bif !false then true else !zA (List.drop 1 (zA a)) == bA #[] then true else zg (ZU (List.drop 1 (zA a))) (2 : Int)); Zt [AV.str a] → bF q1 (bF (!zS true !a == bA #[] || DB.db (iZ ≤ iZ ∧ iZ < (lZ a))) (bF q1 (bF (!!a == bA #[] || zS true !a == bA #[]) (zZ (bif
 !a == bA #[] then (cI (UInt8.toNat (gD a 0 (0 : UInt8)))) == (45 : Int) else false) (bF (DB.db (iZ ≤ iO ∧ iO ≤ (lZ a))) (lN (List.drop 1 a) ≤ nX ∧ zZ (Z5 (List.drop 1 a)) (bF (!(zS false !true && zS true q2) || zS false !true && zS true q2) (bF (!zS false !true || (!zg (lZ (List.drop 1 a)) (lZ a) || zS false !true && zS true q2)) (zZ (bif !true then true else bif zg (lZ (List.drop 1 a))
 (lZ a) then ZU (List.drop 1 a) == iZ else false) q3 (zZ (!zA (List.drop 1 a) == bA #[]) (bF (DB.db (iZ ≤ iZ ∧ iZ < q5)) (zZ ((cI (UInt8.toNat (gD (zA (List.drop 1 a)) 0 (0 : UInt8)))) != (47 : Int)) q3 (bF (DB.db (iZ ≤ iO ∧ iO ≤ q5)) (lN (List.drop 1 (zA (List.drop 1 a))) ≤ nX ∧ zZ (Z5 (List.drop 1 (zA (List.drop 1 a)))) (bF q6 (bF q6 (bF ((!!bif !true then true else !zA (List.drop 1 (zA (List.drop 1
 a))) == bA #[]) || zS false q7) (bF q8 (bF q8 (bF q8 ((zS false q9 = true → iZ ≤ ZU (List.drop 1 a) ∧ ZU (List.drop 1 a) ≤ iX) ∧ (zS false q9 = true → iZ ≤ ZU (List.drop 1 (zA (List.drop 1 a))) ∧ ZU (List.drop 1 (zA (List.drop 1 a))) ≤ iX) ∧ bF q8 (bF ((!!bif bif !true then true else !zA (List.drop 1 (zA (List.drop 1 a))) == bA #[] then true else zg q10 (2 : Int)) || zS false q9) (zZ (bif bif bif
 !true then true else !zA (List.drop 1 (zA (List.drop 1 a))) == bA #[] then true else zg q10 (2 : Int) then true else Wv (ZU (List.drop 1 a)) q10 != iO) q3 (∃ (z : Int), ((Zz a = true ∧ z = (cI (zP a)) ∧ AV.int q11 = (cI (ze (zO (zR a))))) ∧ a = a ∧ (nat_lit 0 = 0 ∧ 0 = 0) ∧ List.drop 1 a = List.drop 1 a ∧ q12 ∧ nat_lit 1 = 1 ∧ 0 = 0) ∧ q13 ∧ (91 : TypeId) = 91 ∧ 2 = 2 ∧ q12 ∧ kI ∧ ZU (List.drop 1 (zA (List.drop 1 a))) = z)))))))))) ((zS false q14 =
 true → iZ ≤ ZU (List.drop 1 a) ∧ ZU (List.drop 1 a) ≤ iX) ∧ (zS false q14 = true → iZ ≤ ZU (List.drop 1 (zA (List.drop 1 a))) ∧ ZU (List.drop 1 (zA (List.drop 1 a))) ≤ iX) ∧ j2 ∧ q4 ∧ false = Zz a))))) (∃ (z : Int), ((Zz a = true ∧ z = (cI (zP a)) ∧ AV.int q11 = (cI (ze (zO (zR a))))) ∧ a = a ∧ (nat_lit 0 = 0 ∧ 0 = 0) ∧ List.drop 1 a = List.drop 1 a ∧ q12 ∧ nat_lit 1 = 1 ∧ 0 = 0) ∧ q13 ∧ (91 : TypeId) = 91 ∧ 2 = 2 ∧ q12 ∧ kI ∧ iO =
 z) ∧ ∀ (z : Int), Zz a = true ∧ z = (cI (zP a)) ∧ AV.int q11 = (cI (ze (zO (zR a)))) → zZ q2 (bF (dK (-ZU (List.drop 1 a))) (j2 ∧ (True ∧ 2 = 2 ∧ (kI ∧ -ZU (List.drop 1 a) = bif Zz a then zM a else iZ) ∧ kI ∧ z = bif Zz a then (cI (zP a)) else iZ) ∧ true = Zz a)) (j2 ∧ (True ∧ 2 = 2 ∧ (kI ∧ ZU (List.drop 1 a) = bif Zz a then zM a else iZ) ∧ kI ∧ z = bif Zz a then (↑(zP a) :
 Int) else iZ) ∧ true = Zz a))))) q3)) (lN a ≤ nX ∧ zZ (Z5 a) (bF (!(zS false !true && zS true q15) || zS false !true && zS true q15) (bF (!zS false !true || (!zg (lZ a) (lZ a) || zS false !true && zS true q15)) (zZ (bif !true then true else bif zg (lZ a) (lZ a) then ZU a == iZ else false) q3 (zZ (!zA a == bA #[]) (bF (DB.db (iZ ≤ iZ ∧ iZ < (cI (List.length
 (zA a))))) (zZ ((cI (UInt8.toNat (gD (zA a) 0 (0 : UInt8)))) != (47 : Int)) q3 (bF (DB.db (iZ ≤ iO ∧ iO ≤ (lZ (zA a)))) (lN (List.drop 1 (zA a)) ≤ nX ∧ zZ (Z5 (List.drop 1 (zA a))) (bF q16 (bF q16 (bF ((!!bif !true then true else !zA (List.drop 1 (zA a)) == bA #[]) || zS false q17) (bF q18 (bF q18 (bF q18 ((zS false q19 = true → iZ ≤ ZU a ∧ ZU a ≤ iX) ∧ (zS false q19 = true → (0
 : Int) ≤ ZU (List.drop 1 (zA a)) ∧ ZU (List.drop 1 (zA a)) ≤ iX) ∧ bF q18 (bF ((!!bif bif !true then true else !zA (List.drop 1 (zA a)) == bA #[] then true else zg (ZU (List.drop 1 (zA a))) (2 : Int)) || zS false q19) (zZ (bif bif bif !true then true else !zA (List.drop 1 (zA a)) == bA #[] then true else zg (ZU (List.drop 1 (zA a))) (2 : Int) then true else Wv (ZU a) (ZU (List.drop 1 (zA a))) != iO) q3 (∃ (z : Int), ((Zz a = true ∧
 z = (cI (zP a)) ∧ AV.int (aI (ZU a)) = (cI (ze (zO (zR a))))) ∧ a = a ∧ (nat_lit 0 = 0 ∧ 0 = 0) ∧ a = a ∧ (kI ∧ ZU a = ZU a) ∧ nat_lit 1 = 1 ∧ 0 = 0) ∧ q13 ∧ (91 : TypeId) = 91 ∧ 2 = 2 ∧ (kI ∧ ZU a = ZU a) ∧ kI ∧ ZU (List.drop 1 (zA a)) = z)))))))))) ((zS false q20 = true → iZ ≤ ZU a ∧ ZU a ≤ iX) ∧ (zS false q20 = true → iZ ≤ ZU (List.drop 1 (zA a)) ∧ ZU (List.drop 1 (zA a)) ≤ (9223372036854775807
 : Int)) ∧ j2 ∧ q4 ∧ false = Zz a))))) (∃ (z : Int), ((Zz a = true ∧ z = (cI (zP a)) ∧ AV.int (aI (ZU a)) = (cI (ze (zO (zR a))))) ∧ a = a ∧ (nat_lit 0 = 0 ∧ 0 = 0) ∧ a = a ∧ (kI ∧ ZU a = ZU a) ∧ nat_lit 1 = 1 ∧ 0 = 0) ∧ q13 ∧ (91 : TypeId) = 91 ∧ 2 = 2 ∧ (kI ∧ ZU a = ZU a) ∧ kI ∧ iO = z) ∧ ∀ (z : Int), Zz a = true ∧ z = (cI (zP a)) ∧ AV.int (aI (ZU a)) = (cI (ze (zO (zR a)))) → zZ q15 (bF (DB.db (yR
 .i64 (-ZU a))) (j2 ∧ (True ∧ 2 = 2 ∧ (kI ∧ -ZU a = bif Zz a then zM a else iZ) ∧ kI ∧ z = bif Zz a then (cI (zP a)) else iZ) ∧ true = Zz a)) (j2 ∧ (True ∧ 2 = 2 ∧ (kI ∧ ZU a = bif Zz a then zM a else iZ) ∧ kI ∧ z = bif Zz a then (cI (zP a)) else iZ) ∧ true = Zz a))))) q3))))) := by
 delta bF dK bA nX cI kI j2 lZ lN gD iZ iO iX aI
 dsimp only
 intro hb
 simp only [sS, dS, xt]
 have em : (!(a == []) && ((a.getD 0 0).toNat : Int) == 45) = zL a := by
  rw [show (((a.getD 0 0).toNat : Int) == 45) = (a.getD 0 0 == 45) from vo (a.getD 0 0) 45 (by decide)]
  unfold zL
  match a with
  | [] => rfl
  | c :: r => simp
 have e47 : ∀ c : UInt8, ((c.toNat : Int) = 47) ↔ c = 47 := fun c => by
  have := vo c 47 (by decide)
  rw [Bool.eq_iff_iff, beq_iff_eq, beq_iff_eq] at this
  exact this
 have bad : Zz a = false → 2 = [AV.junk, AV.junk].length ∧ ((0 = bif Zz a then zM a else 0) ∧ 0 = bif Zz a then (zP a : Int) else 0) ∧ false = Zz a := fun h => by rw [h]; exact ⟨rfl, ⟨rfl, rfl⟩, rfl⟩
 have rb : ∀ s : zj, Z5 s = true → 0 ≤ ZU s ∧ ZU s ≤ 9223372036854775807 := fun s h => by have := (Xt h).2.2.2; omega
 have F := nf a
 rw [em]
 simp only [e47, ne_eq]
 have hpos : (!(a == [])) = true → 0 < a.length := fun h => by
  match a, h with
  | c :: r, _ => simp
 refine ⟨fun h => ⟨Int.le_refl _, by have := hpos h; omega⟩, zX.2 ⟨fun c => ?_, fun c => ?_⟩⟩
 ·have hown : zR a = a.drop 1 := by unfold zR; rw [c]; rfl
  have hl1 := (qc c).2
  have hlt : zg ((a.drop 1).length : Int) (a.length : Int) = zL a := by rw [c, zq, List.length_drop]; omega
  rw [hown] at F
  refine ⟨⟨by omega, by omega⟩, by rw [List.length_drop]; omega, ?_⟩
  generalize ho : a.drop 1 = o at *
  have hlo : o.length ≤ a.length := by rw [← ho, List.length_drop]; omega
  have hgt : (o.length : Int) < (a.length : Int) ↔ zL a = true := by rw [← hlt, zq]
  rw [hlt]
  refine zX.2 ⟨fun k => ?_, fun k => bad (F.f0 k)⟩
  refine u7 (by cases zL a <;> rfl) ?_
  have hb1 := rb _ k
  refine zX.2 ⟨fun k2 => bad (F.f5 k (by simpa using k2)), fun k2 => ⟨zX.2 ⟨fun k3 => ?_, fun k3 => ?_⟩, fun z hz => ?_⟩⟩
  ·have k4 : zA o ≠ [] := by simpa using k3
   have k5 : 0 < (zA o).length := Nat.pos_of_ne_zero fun e => k4 (List.eq_nil_of_length_eq_zero e)
   have k6 : (zA o).length ≤ o.length := by
    obtain ⟨_, _, h3, _⟩ := Xt k
    have := congrArg List.length h3
    rw [List.length_append] at this
    omega
   refine ⟨⟨by omega, by omega⟩, fun hne => bad (F.f3 k k4 hne), fun he => ⟨⟨by omega, by omega⟩, by rw [List.length_drop]; omega, zX.2 ⟨fun k7 => ?_, fun k7 => ?_⟩⟩⟩
   ·obtain ⟨i1, i2, i3⟩ := F.f7 k k4 he k7
    refine ⟨fun _ => hb1, fun _ => rb _ k7, zX.2 ⟨fun k8 => bad (Bool.eq_false_iff.2 fun hb => ?_), fun k8 => ?_⟩⟩
    ·obtain ⟨j1, j2, j3, j4⟩ := i1.1 hb
     rw [j2, j4, show zg (ZU ((zA o).drop 1)) 2 = false from Bool.eq_false_iff.2 fun e => by have := (zq _ _).1 e; omega] at k8
     cases k8
    ·have hb : Zz a = true := i1.2 (by
      rw [Bool.or_eq_false_iff, Bool.or_eq_false_iff] at k8
      obtain ⟨⟨q1, q2⟩, q3⟩ := k8
      refine ⟨by simpa using k2, by simpa using q1, ?_, by simpa using q3⟩
      refine Decidable.byContradiction fun hn => ?_
      rw [(zq _ _).2 (by omega)] at q2
      cases q2)
     exact ⟨_, ⟨hb, (i3 hb).symm, i2⟩, rfl⟩
   ·exact ⟨fun h => by simp at h, fun h => by simp at h, bad (F.f6 k k4 he k7)⟩
  ·have k4 : zA o = [] := by simpa using k3
   obtain ⟨i1, i2, i3⟩ := F.f2 k k4
   have k2' : (zL a && ZU o == 0) = false := k2
   have hb : Zz a = true := by rw [i1, k2']; rfl
   exact ⟨1, ⟨hb, by rw [i3]; rfl, i2⟩, rfl⟩
  ·obtain ⟨z1, z2, z3⟩ := hz
   have fr := F.fr
   rw [← z3] at fr
   refine ⟨fun hh => ⟨⟨by omega, by omega⟩, rfl, ⟨?_, ?_⟩, z1.symm⟩, fun hh => ⟨rfl, ⟨?_, ?_⟩, z1.symm⟩⟩
   ·rw [z1, fr, hgt.1 hh]; rfl
   ·rw [z1]; exact z2
   ·have : zL a = false := Bool.eq_false_iff.2 fun e => by have := hgt.2 e; omega
    rw [z1, fr, this]; rfl
   ·rw [z1]; exact z2
 ·have hown : zR a = a := by unfold zR; rw [c]; rfl
  have hlt : zg (a.length : Int) (a.length : Int) = zL a := by rw [c, Bool.eq_false_iff, Ne, zq]; omega
  rw [hown] at F
  have hlo : a.length ≤ a.length := Nat.le_refl _
  have hgt : (a.length : Int) < (a.length : Int) ↔ zL a = true := by rw [← hlt, zq]
  refine ⟨by omega, ?_⟩
  rw [hlt]
  refine zX.2 ⟨fun k => ?_, fun k => bad (F.f0 k)⟩
  refine u7 (by cases zL a <;> rfl) ?_
  have hb1 := rb _ k
  refine zX.2 ⟨fun k2 => bad (F.f5 k (by simpa using k2)), fun k2 => ⟨zX.2 ⟨fun k3 => ?_, fun k3 => ?_⟩, fun z hz => ?_⟩⟩
  ·have k4 : zA a ≠ [] := by simpa using k3
   have k5 : 0 < (zA a).length := Nat.pos_of_ne_zero fun e => k4 (List.eq_nil_of_length_eq_zero e)
   have k6 : (zA a).length ≤ a.length := by
    obtain ⟨_, _, h3, _⟩ := Xt k
    have := congrArg List.length h3
    rw [List.length_append] at this
    omega
   refine ⟨⟨by omega, by omega⟩, fun hne => bad (F.f3 k k4 hne), fun he => ⟨⟨by omega, by omega⟩, by rw [List.length_drop]; omega, zX.2 ⟨fun k7 => ?_, fun k7 => ?_⟩⟩⟩
   ·obtain ⟨i1, i2, i3⟩ := F.f7 k k4 he k7
    refine ⟨fun _ => hb1, fun _ => rb _ k7, zX.2 ⟨fun k8 => bad (Bool.eq_false_iff.2 fun hb => ?_), fun k8 => ?_⟩⟩
    ·obtain ⟨j1, j2, j3, j4⟩ := i1.1 hb
     rw [j2, j4, show zg (ZU ((zA a).drop 1)) 2 = false from Bool.eq_false_iff.2 fun e => by have := (zq _ _).1 e; omega] at k8
     cases k8
    ·have hb : Zz a = true := i1.2 (by
      rw [Bool.or_eq_false_iff, Bool.or_eq_false_iff] at k8
      obtain ⟨⟨q1, q2⟩, q3⟩ := k8
      refine ⟨by simpa using k2, by simpa using q1, ?_, by simpa using q3⟩
      refine Decidable.byContradiction fun hn => ?_
      rw [(zq _ _).2 (by omega)] at q2
      cases q2)
     exact ⟨_, ⟨hb, (i3 hb).symm, i2⟩, rfl⟩
   ·exact ⟨fun h => by simp at h, fun h => by simp at h, bad (F.f6 k k4 he k7)⟩
  ·have k4 : zA a = [] := by simpa using k3
   obtain ⟨i1, i2, i3⟩ := F.f2 k k4
   have k2' : (zL a && ZU a == 0) = false := k2
   have hb : Zz a = true := by rw [i1, k2']; rfl
   exact ⟨1, ⟨hb, by rw [i3]; rfl, i2⟩, rfl⟩
  ·obtain ⟨z1, z2, z3⟩ := hz
   have fr := F.fr
   rw [← z3] at fr
   refine ⟨fun hh => ⟨⟨by omega, by omega⟩, rfl, ⟨?_, ?_⟩, z1.symm⟩, fun hh => ⟨rfl, ⟨?_, ?_⟩, z1.symm⟩⟩
   ·rw [z1, fr, hgt.1 hh]; rfl
   ·rw [z1]; exact z2
   ·have : zL a = false := Bool.eq_false_iff.2 fun e => by have := hgt.2 e; omega
    rw [z1, fr, this]; rfl
   ·rw [z1]; exact z2
theorem NP (a : List UInt8) (hl : a.length ≤ 9223372036854775807) : zU Tryz.prog [] 55 [.str a] (.tup 2 (zw [.agg 2 (zw [.i (bif Zz a then zM a else 0), .i (bif Zz a then (zP a : Int) else 0)]), .b (Zz a)])) :=
 zW (T := GO) (an := Ln a) mixed Og (Eq.mp (by kernel_rfl) (KR a hl))
theorem Si : zp Tryz.prog [] 55 VE := by
 intro xs ps r h hp
 unfold VE at h
 split at h
 ·skip
  rename_i a
  cases h
  obtain ⟨q0, -⟩ := ZF hp
  exact weaken (ys := [.str a]) ⟨zT _, trivial⟩ (NP a q0)
 ·cases h
end Go.Te
