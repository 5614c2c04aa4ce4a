/- rational: nativeOf. -/
import Derived.Test.YthbpnknhfokadaaGreatDoorThS
set_option linter.unusedSimpArgs false
set_option linter.unusedVariables false
namespace Go.Te
open Go Go.Sx Go.Proofs Go.Ar
set_option maxRecDepth 100000
set_option maxHeartbeats 4000000
def z8 (a : zj) : Bool := zh a == 0 && leB ((zn (zR a)).length : Int) 8 && leB ((zB (zR a)).length : Int) 8
theorem uF (s : zj) : wQ s ++ s.drop (wQ s).length = s := by
 have h : s = s.takeWhile Zc ++ s.dropWhile Zc := (List.takeWhile_append_dropWhile).symm
 have gen : ∀ t u : zj, t ++ u = s → s.drop t.length = u := by
  rintro t u rfl
  exact List.drop_left
 have h2 : s.drop (wQ s).length = s.dropWhile Zc := gen _ _ h.symm
 rw [h2]
 exact h.symm
theorem nw (s : zj) : ∀ c ∈ wQ s, Zc c = true := fun c hc => List.all_eq_true.1 (List.all_takeWhile (l := s) (p := Zc)) c hc
theorem Xh {s : zj} : Z4 s = true ↔ Z2 (wQ s) = true ∧ (wQ s).length ≤ 8 := by
 unfold Z4
 rw [Bool.and_eq_true, Zz]
 exact ⟨fun h => ⟨h.1, by omega⟩, fun h => ⟨h.1, by omega⟩⟩
theorem XZ {s : zj} (h : Z4 s = true) : Zu s = (zD (wQ s) : Int) ∧ za s = s.drop (wQ s).length ∧ wQ s ++ za s = s ∧ 0 ≤ Zu s ∧ Zu s ≤ 99999999 := by
 have e1 : Zu s = (zD (wQ s) : Int) := by unfold Zu; rw [h]; rfl
 have e2 : za s = s.drop (wQ s).length := by unfold za; rw [h]; rfl
 obtain ⟨h1, h2⟩ := Xh.1 h
 have b := W1 h1 (k := 8) h2
 rw [show 10 ^ 8 = 100000000 from by decide] at b
 exact ⟨e1, e2, by rw [e2]; exact uF s, by omega, by omega⟩
theorem SK {s : zj} (h : Z2 s = true) : wQ s = s := by
 have := SC (a := s) (b := []) (Zt.1 h).2.1
 rw [List.append_nil] at this
 rw [this]
 show s ++ [] = s
 simp
theorem Rt {s : zj} (h : Z2 s = true) (hl : s.length ≤ 8) : Z4 s = true ∧ Zu s = (zD s : Int) ∧ za s = [] := by
 have ht := SK h
 have ho : Z4 s = true := Xh.2 (by rw [ht]; exact ⟨h, hl⟩)
 obtain ⟨n1, n2, _⟩ := XZ ho
 rw [ht] at n1 n2
 exact ⟨ho, n1, by rw [n2]; simp⟩
theorem UW {s : zj} (h : Z4 s = true) (hr : za s = []) : Z2 s = true ∧ s.length ≤ 8 ∧ Zu s = (zD s : Int) := by
 obtain ⟨n1, n2, n3, _⟩ := XZ h
 rw [hr, List.append_nil] at n3
 obtain ⟨h1, h2⟩ := Xh.1 h
 rw [n3] at h1 h2 n1
 exact ⟨h1, h2, n1⟩
theorem XF {a : zj} : z8 a = true ↔ Wx a = true ∧ (zn (zR a)).length ≤ 8 ∧ (zB (zR a)).length ≤ 8 ∧ (zJ (zR a) = true → Nat.gcd (zD (zn (zR a))) (zD (zB (zR a))) = 1) := by
 unfold z8
 rw [Bool.and_eq_true, Bool.and_eq_true, Zz, Zz, beq_iff_eq]
 constructor
 ·rintro ⟨⟨h1, h2⟩, h3⟩
  cases hf : Wx a with
  | false => rw [rk hf] at h1; cases h1
  | true =>
   refine ⟨rfl, by omega, by omega, fun hs => ?_⟩
   rw [tZ hf ⟨by omega, by omega⟩ hs] at h1
   cases hg : Nat.beq (Nat.gcd (zD (zn (zR a))) (zD (zB (zR a)))) 1 with
   | true => exact Nat.eq_of_beq_eq_true hg
   | false => rw [hg] at h1; cases h1
 ·rintro ⟨h1, h2, h3, h4⟩
  refine ⟨⟨?_, by omega⟩, by omega⟩
  cases hs : zJ (zR a) with
  | false => exact Ry h1 (by omega) hs
  | true =>
   rw [tZ h1 ⟨by omega, by omega⟩ hs, h4 hs]
   rfl
theorem xN {a : zj} : Wx a = true ↔ Z2 (zn (zR a)) = true ∧ ¬ (zk a = true ∧ zn (zR a) = [48]) ∧ (zJ (zR a) = true → Z2 (zB (zR a)) = true ∧ zB (zR a) ≠ [48] ∧ zB (zR a) ≠ [49]) := by
 unfold Wx
 rw [Bool.and_eq_true, Bool.and_eq_true, Bool.not_eq_true', Bool.and_eq_false_iff, Bool.or_eq_true, Bool.and_eq_true, Bool.and_eq_true, Bool.not_eq_true', Bool.not_eq_true', Bool.not_eq_true', beq_eq_false_iff_ne, beq_eq_false_iff_ne, beq_eq_false_iff_ne]
 constructor
 ·rintro ⟨⟨h1, h2⟩, h3⟩
  refine ⟨h1, fun h => ?_, fun h => ?_⟩
  ·rcases h2 with h2 | h2
   ·rw [h.1] at h2; cases h2
   ·exact h2 h.2
  ·rcases h3 with h3 | h3
   ·rw [h] at h3; cases h3
   ·exact ⟨h3.1.1, h3.1.2, h3.2⟩
 ·rintro ⟨h1, h2, h3⟩
  refine ⟨⟨h1, ?_⟩, ?_⟩
  ·cases hm : zk a with
   | false => exact .inl rfl
   | true => exact .inr fun e => h2 ⟨hm, e⟩
  ·cases hs : zJ (zR a) with
   | false => exact .inl rfl
   | true => have := h3 hs; exact .inr ⟨⟨this.1, this.2.1⟩, this.2.2⟩
theorem P2 {s : zj} (h : Z2 s = true) : zD s = 0 ↔ s = [48] := ⟨fun e => Vq h e, fun e => by rw [e]; decide⟩
theorem iG {s : zj} (h : Z2 s = true) : zD s = 1 ↔ s = [49] := ⟨fun e => by
 have := ZF h
 rw [e, zA (by omega)] at this
 exact this.symm, fun e => by rw [e]; decide⟩
structure NF (a o : zj) : Prop where
 f0 : Z4 o = false → z8 a = false
 f1 : Z4 o = true → 0 ≤ Zu o ∧ Zu o ≤ 99999999
 f2 : Z4 o = true → za o = [] → z8 a = !(zk a && Zu o == 0) ∧ Zu o = (zD (zn (zR a)) : Int) ∧ zP a = 1
 f3 : Z4 o = true → za o ≠ [] → (za o).getD 0 0 ≠ 47 → z8 a = false
 f5 : Z4 o = true → (zk a && Zu o == 0) = true → z8 a = false
 f6 : Z4 o = true → za o ≠ [] → (za o).getD 0 0 = 47 → Z4 ((za o).drop 1) = false → z8 a = false
 f7 : Z4 o = true → za o ≠ [] → (za o).getD 0 0 = 47 → Z4 ((za o).drop 1) = true →
  (z8 a = true ↔ (zk a && Zu o == 0) = false ∧ za ((za o).drop 1) = [] ∧ 2 ≤ Zu ((za o).drop 1) ∧ w6 (Zu o) (Zu ((za o).drop 1)) = 1) ∧ Zu o = (zD (zn (zR a)) : Int) ∧ (z8 a = true → (zP a : Int) = Zu ((za o).drop 1))
 fr : zL a = bif zk a then -(zD (zn (zR a)) : Int) else (zD (zn (zR a)) : Int)
theorem Sq {a : zj} (h : z8 a = true) : Z4 (zR a) = true ∧ Zu (zR a) = (zD (zn (zR a)) : Int) ∧ za (zR a) = (bif zJ (zR a) then 47 :: zB (zR a) else []) := by
 obtain ⟨h1, h2, h3, h4⟩ := XF.1 h
 obtain ⟨g1, g2, g3⟩ := xN.1 h1
 have ht : wQ (zR a) = zn (zR a) ∧ (zR a).drop (zn (zR a)).length = (bif zJ (zR a) then 47 :: zB (zR a) else []) := by
  cases hs : zJ (zR a) with
  | false =>
   obtain ⟨c1, c2⟩ := XX hs
   rw [c1] at g1 ⊢
   exact ⟨SK g1, by simp⟩
  | true =>
   have he := Vg hs
   have e1 : wQ (zR a) = zn (zR a) := by
    conv => lhs; rw [he]
    rw [SC (Zt.1 g1).2.1]
    show zn (zR a) ++ [] = _
    rw [List.append_nil]
   refine ⟨e1, ?_⟩
   conv => lhs; arg 2; rw [he]
   rw [List.drop_left]
   rfl
 have ho : Z4 (zR a) = true := Xh.2 (by rw [ht.1]; exact ⟨g1, h2⟩)
 obtain ⟨n1, n2, _⟩ := XZ ho
 rw [ht.1] at n1 n2
 exact ⟨ho, n1, by rw [n2, ht.2]⟩
theorem sE {a : zj} : zL a = (bif zk a then -(zD (zn (zR a)) : Int) else (zD (zn (zR a)) : Int)) ∧ zP a = (bif zJ (zR a) then zD (zB (zR a)) else 1) := by
 obtain ⟨_, _, _, _, _, h6, h7⟩ := YH a
 exact ⟨h6, h7⟩
theorem nf (a : zj) : NF a (zR a) := by
 obtain ⟨r1, r2⟩ := sE (a := a)
 have neg : Z4 (zR a) = true → (zk a && Zu (zR a) == 0) = true → z8 a = false := fun h hz => Bool.eq_false_iff.2 fun hb => by
  obtain ⟨_, n1, _⟩ := Sq hb
  obtain ⟨h1, _⟩ := XF.1 hb
  obtain ⟨g1, g2, _⟩ := xN.1 h1
  rw [Bool.and_eq_true, beq_iff_eq, n1] at hz
  exact g2 ⟨hz.1, (P2 g1).1 (by omega)⟩
 have sm : Z4 (zR a) = true → za (zR a) ≠ [] → (za (zR a)).getD 0 0 = 47 → zn (zR a) = wQ (zR a) ∧ zB (zR a) = (za (zR a)).drop 1 ∧ zJ (zR a) = true := fun h h1 h2 => by
  obtain ⟨n1, n2, n3, _⟩ := XZ h
  have e : za (zR a) = 47 :: (za (zR a)).drop 1 := by
   match za (zR a), h1, h2 with
   | c :: r, _, h2 => rw [show c = 47 from h2]; rfl
  rw [e] at n3
  have := Uh (a := wQ (zR a)) (b := (za (zR a)).drop 1) fun c hc => U3 (nw _ c hc)
  rw [n3] at this
  exact this
 refine ⟨fun h => Bool.eq_false_iff.2 fun hb => ?_, fun h => (XZ h).2.2.2, fun h h1 => ?_, fun h h1 h2 => Bool.eq_false_iff.2 fun hb => ?_, neg, fun h h1 h2 h3 => Bool.eq_false_iff.2 fun hb => ?_, fun h h1 h2 h3 => ?_, r1⟩
 ·rw [(Sq hb).1] at h; cases h
 ·obtain ⟨b1, b2, b3⟩ := UW h h1
  obtain ⟨c1, c2, c3⟩ := Nr (s := zR a) fun i hi e => by
   have := (Zt.1 b1).2.1 _ (wG (s := zR a) (i := i) hi)
   rw [e] at this
   cases this
  rw [c2, r2, c1]
  refine ⟨?_, b3, rfl⟩
  rw [Bool.eq_iff_iff, XF, xN, c1, c2, c3, Bool.not_eq_true', b3]
  constructor
  ·rintro ⟨⟨_, g2, _⟩, _⟩
   rw [Bool.and_eq_false_iff]
   cases hm : zk a with
   | false => exact .inl rfl
   | true => exact .inr (beq_eq_false_iff_ne.2 fun e => g2 ⟨hm, (P2 b1).1 (by omega)⟩)
  ·intro g
   refine ⟨⟨b1, fun g2 => ?_, fun e => by cases e⟩, b2, by simp, fun e => by cases e⟩
   rw [g2.1, g2.2] at g
   cases g
 ·have := (Sq hb).2.2
  rw [this] at h1 h2
  cases hs : zJ (zR a) with
  | false => rw [hs] at h1; exact h1 rfl
  | true => rw [hs] at h2; exact h2 rfl
 ·obtain ⟨c1, c2, c3⟩ := sm h h1 h2
  obtain ⟨k1, k2, k3, _⟩ := XF.1 hb
  have d1 := (xN.1 k1).2.2 c3
  rw [c2] at d1 k3
  rw [(Rt d1.1 k3).1] at h3
  cases h3
 ·obtain ⟨c1, c2, c3⟩ := sm h h1 h2
  obtain ⟨n1, _, _, _⟩ := XZ h
  obtain ⟨o1, o2⟩ := Xh.1 h
  rw [c1, r2, c3, c2]
  obtain ⟨m1, _, _, m4, m5⟩ := XZ h3
  have hgO : w6 (Zu (zR a)) (Zu ((za (zR a)).drop 1)) = (Nat.gcd (Zu (zR a)).toNat (Zu ((za (zR a)).drop 1)).toNat : Int) := by
   unfold w6
   rw [(Zz _ _).2 (XZ h).2.2.2.1, (Zz _ _).2 m4]
   rfl
  have key : z8 a = true ↔ (zk a && Zu (zR a) == 0) = false ∧ za ((za (zR a)).drop 1) = [] ∧ 2 ≤ Zu ((za (zR a)).drop 1) ∧ w6 (Zu (zR a)) (Zu ((za (zR a)).drop 1)) = 1 := by
   rw [XF, xN, c1, c2, c3, hgO]
   constructor
   ·rintro ⟨⟨_, g2, g3⟩, g4, g5, g6⟩
    obtain ⟨g7, g8, g9⟩ := g3 rfl
    obtain ⟨q1, q2, q3⟩ := Rt g7 g5
    have z0 : zD ((za (zR a)).drop 1) ≠ 0 := fun e => g8 ((P2 g7).1 e)
    have z1 : zD ((za (zR a)).drop 1) ≠ 1 := fun e => g9 ((iG g7).1 e)
    refine ⟨?_, q3, by omega, ?_⟩
    ·rw [Bool.and_eq_false_iff]
     cases hm : zk a with
     | false => exact .inl rfl
     | true => exact .inr (beq_eq_false_iff_ne.2 fun e => g2 ⟨hm, (P2 o1).1 (by omega)⟩)
    ·rw [n1, q2, Int.toNat_natCast, Int.toNat_natCast, g6 rfl]; rfl
   ·rintro ⟨g1, g2, g3, g4⟩
    obtain ⟨q1, q2, q3⟩ := UW h3 g2
    have z0 : zD ((za (zR a)).drop 1) ≠ 0 := by omega
    have z1 : zD ((za (zR a)).drop 1) ≠ 1 := by omega
    refine ⟨⟨o1, fun e => ?_, fun _ => ⟨q1, fun e => z0 ((P2 q1).2 e), fun e => z1 ((iG q1).2 e)⟩⟩, o2, q2, fun _ => ?_⟩
    ·rw [e.1, n1, (P2 o1).2 e.2] at g1
     cases g1
    ·rw [n1, q3, Int.toNat_natCast, Int.toNat_natCast] at g4
     omega
  refine ⟨key, n1, fun hb => ?_⟩
  obtain ⟨_, g2, _⟩ := key.1 hb
  obtain ⟨q1, q2, q3⟩ := UW h3 g2
  rw [q3]
  rfl
noncomputable def gQ : Tb := (T0.plus 91 S5).plus 92 s9
theorem oK : zz Tryz.prog gQ := zz.plus (zz.plus zQ l5) nI
def LB (a : zj) (x y : yt) : yt := .join Int (fun σ _ => [(0, σ.tm 0), (2, σ.tm 2), (4, σ.tm 4), (5, σ.tm 5), (8, σ.tm 8)]) (fun σ z => [(1, .box 91 2 (zw [σ.tm 5, .i z]))]) 0
 (fun σ z => z8 a = true ∧ z = (zP a : Int) ∧ AV.int (σ.tm 5) = (zD (zn (zR a)) : Int)) x y
def M3 (a : zj) : yt := .two .auto (.two .auto (.two .auto (.two .auto (.split 7 .auto (.two .auto (LB a (.two .auto (.two (.two .auto (.two .auto (.split 7 .auto .auto))) .auto)) .auto))))))
def Vr : List AV → Option (List zN × AV)
 | [.str a] => some ([.p (a.length ≤ 9223372036854775807)], .tup 2 (zw [.agg 2 (zw [.i (bif z8 a then zL a else 0), .i (bif z8 a then (zP a : Int) else 0)]), .b (z8 a)]))
 | _ => none
theorem Le (a : List UInt8) (hl : a.length ≤ 9223372036854775807) :
 let q1 := (!zr true !a == bA #[] || zr true !a == bA #[]); let q2 := (zg (lZ (List.drop 1 a)) (lZ a)); let q4 := (True ∧ 2 = 2 ∧ (kI ∧ iZ = bif z8 a then zL a else iZ) ∧ kI ∧ iZ = bif z8 a then (cI (zP a)) else iZ); let q3 := (j2 ∧ q4 ∧ false = z8 a); let q5 := (lZ (za (List.drop 1 a))); let q7 := (bif !true then true else !za (List.drop 1 (za
 (List.drop 1 a))) == bA #[]); let q6 := (!zr false q7 || zr false q7); let q10 := (Zu (List.drop 1 (za (List.drop 1 a)))); let q9 := (bif bif !true then true else !za (List.drop 1 (za (List.drop 1 a))) == bA #[] then true else zg q10 (2 : Int)); let q8 := (!zr false q9 || zr false q9); let q11 := (aI (Zu (List.drop 1 a))); let q12 := (kI ∧ Zu (List.drop 1 a) = Zu (List.drop 1 a)); let q13 := (91 = 91 ∧ 2 = 2 ∧ (kI ∧ iZ = iZ)
 ∧ kI ∧ iZ = iZ); let q14 := (bif bif !false then true else !za (List.drop 1 (za (List.drop 1 a))) == bA #[] then true else zg q10 (2 : Int)); let q15 := (zg (lZ a) (lZ a)); let q17 := (bif !true then true else !za (List.drop 1 (za a)) == bA #[]); let q16 := (!zr false q17 || zr false q17); let q19 := (bif bif !true then true else !za (List.drop 1 (za a)) == bA #[] then true else zg (Zu
 (List.drop 1 (za a))) (2 : Int)); let q18 := (!zr false q19 || zr false q19); let q20 := (bif bif !false then true else !za (List.drop 1 (za a)) == bA #[] then true else zg (Zu (List.drop 1 (za a))) (2 : Int)); Zw [AV.str a] → bF q1 (bF (!zr true !a == bA #[] || DB.db (iZ ≤ iZ ∧ iZ < (lZ a))) (bF q1 (bF (!!a == bA #[] || zr true !a == bA #[]) (zZ (bif
 !a == bA #[] then (cI (UInt8.toNat (gD a 0 (0 : UInt8)))) == (45 : Int) else false) (bF (DB.db (iZ ≤ iO ∧ iO ≤ (lZ a))) (lN (List.drop 1 a) ≤ nX ∧ zZ (Z4 (List.drop 1 a)) (bF (!(zr false !true && zr true q2) || zr false !true && zr true q2) (bF (!zr false !true || (!zg (lZ (List.drop 1 a)) (lZ a) || zr false !true && zr true q2)) (zZ (bif !true then true else bif zg (lZ (List.drop 1 a))
 (lZ a) then Zu (List.drop 1 a) == iZ else false) q3 (zZ (!za (List.drop 1 a) == bA #[]) (bF (DB.db (iZ ≤ iZ ∧ iZ < q5)) (zZ ((cI (UInt8.toNat (gD (za (List.drop 1 a)) 0 (0 : UInt8)))) != (47 : Int)) q3 (bF (DB.db (iZ ≤ iO ∧ iO ≤ q5)) (lN (List.drop 1 (za (List.drop 1 a))) ≤ nX ∧ zZ (Z4 (List.drop 1 (za (List.drop 1 a)))) (bF q6 (bF q6 (bF ((!!bif !true then true else !za (List.drop 1 (za (List.drop 1
 a))) == bA #[]) || zr false q7) (bF q8 (bF q8 (bF q8 ((zr false q9 = true → iZ ≤ Zu (List.drop 1 a) ∧ Zu (List.drop 1 a) ≤ iX) ∧ (zr false q9 = true → iZ ≤ Zu (List.drop 1 (za (List.drop 1 a))) ∧ Zu (List.drop 1 (za (List.drop 1 a))) ≤ iX) ∧ bF q8 (bF ((!!bif bif !true then true else !za (List.drop 1 (za (List.drop 1 a))) == bA #[] then true else zg q10 (2 : Int)) || zr false q9) (zZ (bif bif bif
 !true then true else !za (List.drop 1 (za (List.drop 1 a))) == bA #[] then true else zg q10 (2 : Int) then true else w6 (Zu (List.drop 1 a)) q10 != iO) q3 (∃ (z : Int), ((z8 a = true ∧ z = (cI (zP a)) ∧ AV.int q11 = (cI (zD (zn (zR a))))) ∧ a = a ∧ (nat_lit 0 = 0 ∧ 0 = 0) ∧ List.drop 1 a = List.drop 1 a ∧ q12 ∧ nat_lit 1 = 1 ∧ 0 = 0) ∧ q13 ∧ (91 : TypeId) = 91 ∧ 2 = 2 ∧ q12 ∧ kI ∧ Zu (List.drop 1 (za (List.drop 1 a))) = z)))))))))) ((zr false q14 =
 true → iZ ≤ Zu (List.drop 1 a) ∧ Zu (List.drop 1 a) ≤ iX) ∧ (zr false q14 = true → iZ ≤ Zu (List.drop 1 (za (List.drop 1 a))) ∧ Zu (List.drop 1 (za (List.drop 1 a))) ≤ iX) ∧ j2 ∧ q4 ∧ false = z8 a))))) (∃ (z : Int), ((z8 a = true ∧ z = (cI (zP a)) ∧ AV.int q11 = (cI (zD (zn (zR a))))) ∧ a = a ∧ (nat_lit 0 = 0 ∧ 0 = 0) ∧ List.drop 1 a = List.drop 1 a ∧ q12 ∧ nat_lit 1 = 1 ∧ 0 = 0) ∧ q13 ∧ (91 : TypeId) = 91 ∧ 2 = 2 ∧ q12 ∧ kI ∧ iO =
 z) ∧ ∀ (z : Int), z8 a = true ∧ z = (cI (zP a)) ∧ AV.int q11 = (cI (zD (zn (zR a)))) → zZ q2 (bF (dK (-Zu (List.drop 1 a))) (j2 ∧ (True ∧ 2 = 2 ∧ (kI ∧ -Zu (List.drop 1 a) = bif z8 a then zL a else iZ) ∧ kI ∧ z = bif z8 a then (cI (zP a)) else iZ) ∧ true = z8 a)) (j2 ∧ (True ∧ 2 = 2 ∧ (kI ∧ Zu (List.drop 1 a) = bif z8 a then zL a else iZ) ∧ kI ∧ z = bif z8 a then (↑(zP a) :
 Int) else iZ) ∧ true = z8 a))))) q3)) (lN a ≤ nX ∧ zZ (Z4 a) (bF (!(zr false !true && zr true q15) || zr false !true && zr true q15) (bF (!zr false !true || (!zg (lZ a) (lZ a) || zr false !true && zr true q15)) (zZ (bif !true then true else bif zg (lZ a) (lZ a) then Zu a == iZ else false) q3 (zZ (!za a == bA #[]) (bF (DB.db (iZ ≤ iZ ∧ iZ < (cI (List.length
 (za a))))) (zZ ((cI (UInt8.toNat (gD (za a) 0 (0 : UInt8)))) != (47 : Int)) q3 (bF (DB.db (iZ ≤ iO ∧ iO ≤ (lZ (za a)))) (lN (List.drop 1 (za a)) ≤ nX ∧ zZ (Z4 (List.drop 1 (za a))) (bF q16 (bF q16 (bF ((!!bif !true then true else !za (List.drop 1 (za a)) == bA #[]) || zr false q17) (bF q18 (bF q18 (bF q18 ((zr false q19 = true → iZ ≤ Zu a ∧ Zu a ≤ iX) ∧ (zr false q19 = true → (0
 : Int) ≤ Zu (List.drop 1 (za a)) ∧ Zu (List.drop 1 (za a)) ≤ iX) ∧ bF q18 (bF ((!!bif bif !true then true else !za (List.drop 1 (za a)) == bA #[] then true else zg (Zu (List.drop 1 (za a))) (2 : Int)) || zr false q19) (zZ (bif bif bif !true then true else !za (List.drop 1 (za a)) == bA #[] then true else zg (Zu (List.drop 1 (za a))) (2 : Int) then true else w6 (Zu a) (Zu (List.drop 1 (za a))) != iO) q3 (∃ (z : Int), ((z8 a = true ∧
 z = (cI (zP a)) ∧ AV.int (aI (Zu a)) = (cI (zD (zn (zR a))))) ∧ a = a ∧ (nat_lit 0 = 0 ∧ 0 = 0) ∧ a = a ∧ (kI ∧ Zu a = Zu a) ∧ nat_lit 1 = 1 ∧ 0 = 0) ∧ q13 ∧ (91 : TypeId) = 91 ∧ 2 = 2 ∧ (kI ∧ Zu a = Zu a) ∧ kI ∧ Zu (List.drop 1 (za a)) = z)))))))))) ((zr false q20 = true → iZ ≤ Zu a ∧ Zu a ≤ iX) ∧ (zr false q20 = true → iZ ≤ Zu (List.drop 1 (za a)) ∧ Zu (List.drop 1 (za a)) ≤ (9223372036854775807
 : Int)) ∧ j2 ∧ q4 ∧ false = z8 a))))) (∃ (z : Int), ((z8 a = true ∧ z = (cI (zP a)) ∧ AV.int (aI (Zu a)) = (cI (zD (zn (zR a))))) ∧ a = a ∧ (nat_lit 0 = 0 ∧ 0 = 0) ∧ a = a ∧ (kI ∧ Zu a = Zu a) ∧ nat_lit 1 = 1 ∧ 0 = 0) ∧ q13 ∧ (91 : TypeId) = 91 ∧ 2 = 2 ∧ (kI ∧ Zu a = Zu a) ∧ kI ∧ iO = z) ∧ ∀ (z : Int), z8 a = true ∧ z = (cI (zP a)) ∧ AV.int (aI (Zu a)) = (cI (zD (zn (zR a)))) → zZ q15 (bF (DB.db (yP
 .i64 (-Zu a))) (j2 ∧ (True ∧ 2 = 2 ∧ (kI ∧ -Zu a = bif z8 a then zL a else iZ) ∧ kI ∧ z = bif z8 a then (cI (zP a)) else iZ) ∧ true = z8 a)) (j2 ∧ (True ∧ 2 = 2 ∧ (kI ∧ Zu a = bif z8 a then zL a else iZ) ∧ kI ∧ z = bif z8 a then (cI (zP a)) else iZ) ∧ true = z8 a))))) q3))))) := by
 delta bF dK bA nX cI kI j2 lZ lN gD iZ iO iX aI
 dsimp only
 intro hb
 simp only [sS, dS, xw]
 have em : (!(a == []) && ((a.getD 0 0).toNat : Int) == 45) = zk a := by
  rw [show (((a.getD 0 0).toNat : Int) == 45) = (a.getD 0 0 == 45) from vP (a.getD 0 0) 45 (by decide)]
  unfold zk
  match a with
  | [] => rfl
  | c :: r => simp
 have e47 : ∀ c : UInt8, ((c.toNat : Int) = 47) ↔ c = 47 := fun c => by
  have := vP c 47 (by decide)
  rw [Bool.eq_iff_iff, beq_iff_eq, beq_iff_eq] at this
  exact this
 have bad : z8 a = false → 2 = [AV.junk, AV.junk].length ∧ ((0 = bif z8 a then zL a else 0) ∧ 0 = bif z8 a then (zP a : Int) else 0) ∧ false = z8 a := fun h => by rw [h]; exact ⟨rfl, ⟨rfl, rfl⟩, rfl⟩
 have rb : ∀ s : zj, Z4 s = true → 0 ≤ Zu s ∧ Zu s ≤ 9223372036854775807 := fun s h => by have := (XZ h).2.2.2; omega
 have F := nf a
 rw [em]
 simp only [e47, ne_eq]
 have hpos : (!(a == [])) = true → 0 < a.length := fun h => by
  match a, h with
  | c :: r, _ => simp
 refine ⟨fun h => ⟨Int.le_refl _, by have := hpos h; omega⟩, zX.2 ⟨fun c => ?_, fun c => ?_⟩⟩
 ·have hown : zR a = a.drop 1 := by unfold zR; rw [c]; rfl
  have hl1 := (Qc c).2
  have hlt : zg ((a.drop 1).length : Int) (a.length : Int) = zk a := by rw [c, zq, List.length_drop]; omega
  rw [hown] at F
  refine ⟨⟨by omega, by omega⟩, by rw [List.length_drop]; omega, ?_⟩
  generalize ho : a.drop 1 = o at *
  have hlo : o.length ≤ a.length := by rw [← ho, List.length_drop]; omega
  have hgt : (o.length : Int) < (a.length : Int) ↔ zk a = true := by rw [← hlt, zq]
  rw [hlt]
  refine zX.2 ⟨fun k => ?_, fun k => bad (F.f0 k)⟩
  refine UQ (by cases zk a <;> rfl) ?_
  have hb1 := rb _ k
  refine zX.2 ⟨fun k2 => bad (F.f5 k (by simpa using k2)), fun k2 => ⟨zX.2 ⟨fun k3 => ?_, fun k3 => ?_⟩, fun z hz => ?_⟩⟩
  ·have k4 : za o ≠ [] := by simpa using k3
   have k5 : 0 < (za o).length := Nat.pos_of_ne_zero fun e => k4 (List.eq_nil_of_length_eq_zero e)
   have k6 : (za o).length ≤ o.length := by
    obtain ⟨_, _, h3, _⟩ := XZ k
    have := congrArg List.length h3
    rw [List.length_append] at this
    omega
   refine ⟨⟨by omega, by omega⟩, fun hne => bad (F.f3 k k4 hne), fun he => ⟨⟨by omega, by omega⟩, by rw [List.length_drop]; omega, zX.2 ⟨fun k7 => ?_, fun k7 => ?_⟩⟩⟩
   ·obtain ⟨i1, i2, i3⟩ := F.f7 k k4 he k7
    refine ⟨fun _ => hb1, fun _ => rb _ k7, zX.2 ⟨fun k8 => bad (Bool.eq_false_iff.2 fun hb => ?_), fun k8 => ?_⟩⟩
    ·obtain ⟨j1, j2, j3, j4⟩ := i1.1 hb
     rw [j2, j4, show zg (Zu ((za o).drop 1)) 2 = false from Bool.eq_false_iff.2 fun e => by have := (zq _ _).1 e; omega] at k8
     cases k8
    ·have hb : z8 a = true := i1.2 (by
      rw [Bool.or_eq_false_iff, Bool.or_eq_false_iff] at k8
      obtain ⟨⟨q1, q2⟩, q3⟩ := k8
      refine ⟨by simpa using k2, by simpa using q1, ?_, by simpa using q3⟩
      refine Decidable.byContradiction fun hn => ?_
      rw [(zq _ _).2 (by omega)] at q2
      cases q2)
     exact ⟨_, ⟨hb, (i3 hb).symm, i2⟩, rfl⟩
   ·exact ⟨fun h => by simp at h, fun h => by simp at h, bad (F.f6 k k4 he k7)⟩
  ·have k4 : za o = [] := by simpa using k3
   obtain ⟨i1, i2, i3⟩ := F.f2 k k4
   have k2' : (zk a && Zu o == 0) = false := k2
   have hb : z8 a = true := by rw [i1, k2']; rfl
   exact ⟨1, ⟨hb, by rw [i3]; rfl, i2⟩, rfl⟩
  ·obtain ⟨z1, z2, z3⟩ := hz
   have fr := F.fr
   rw [← z3] at fr
   refine ⟨fun hh => ⟨⟨by omega, by omega⟩, rfl, ⟨?_, ?_⟩, z1.symm⟩, fun hh => ⟨rfl, ⟨?_, ?_⟩, z1.symm⟩⟩
   ·rw [z1, fr, hgt.1 hh]; rfl
   ·rw [z1]; exact z2
   ·have : zk a = false := Bool.eq_false_iff.2 fun e => by have := hgt.2 e; omega
    rw [z1, fr, this]; rfl
   ·rw [z1]; exact z2
 ·have hown : zR a = a := by unfold zR; rw [c]; rfl
  have hlt : zg (a.length : Int) (a.length : Int) = zk a := by rw [c, Bool.eq_false_iff, Ne, zq]; omega
  rw [hown] at F
  have hlo : a.length ≤ a.length := Nat.le_refl _
  have hgt : (a.length : Int) < (a.length : Int) ↔ zk a = true := by rw [← hlt, zq]
  refine ⟨by omega, ?_⟩
  rw [hlt]
  refine zX.2 ⟨fun k => ?_, fun k => bad (F.f0 k)⟩
  refine UQ (by cases zk a <;> rfl) ?_
  have hb1 := rb _ k
  refine zX.2 ⟨fun k2 => bad (F.f5 k (by simpa using k2)), fun k2 => ⟨zX.2 ⟨fun k3 => ?_, fun k3 => ?_⟩, fun z hz => ?_⟩⟩
  ·have k4 : za a ≠ [] := by simpa using k3
   have k5 : 0 < (za a).length := Nat.pos_of_ne_zero fun e => k4 (List.eq_nil_of_length_eq_zero e)
   have k6 : (za a).length ≤ a.length := by
    obtain ⟨_, _, h3, _⟩ := XZ k
    have := congrArg List.length h3
    rw [List.length_append] at this
    omega
   refine ⟨⟨by omega, by omega⟩, fun hne => bad (F.f3 k k4 hne), fun he => ⟨⟨by omega, by omega⟩, by rw [List.length_drop]; omega, zX.2 ⟨fun k7 => ?_, fun k7 => ?_⟩⟩⟩
   ·obtain ⟨i1, i2, i3⟩ := F.f7 k k4 he k7
    refine ⟨fun _ => hb1, fun _ => rb _ k7, zX.2 ⟨fun k8 => bad (Bool.eq_false_iff.2 fun hb => ?_), fun k8 => ?_⟩⟩
    ·obtain ⟨j1, j2, j3, j4⟩ := i1.1 hb
     rw [j2, j4, show zg (Zu ((za a).drop 1)) 2 = false from Bool.eq_false_iff.2 fun e => by have := (zq _ _).1 e; omega] at k8
     cases k8
    ·have hb : z8 a = true := i1.2 (by
      rw [Bool.or_eq_false_iff, Bool.or_eq_false_iff] at k8
      obtain ⟨⟨q1, q2⟩, q3⟩ := k8
      refine ⟨by simpa using k2, by simpa using q1, ?_, by simpa using q3⟩
      refine Decidable.byContradiction fun hn => ?_
      rw [(zq _ _).2 (by omega)] at q2
      cases q2)
     exact ⟨_, ⟨hb, (i3 hb).symm, i2⟩, rfl⟩
   ·exact ⟨fun h => by simp at h, fun h => by simp at h, bad (F.f6 k k4 he k7)⟩
  ·have k4 : za a = [] := by simpa using k3
   obtain ⟨i1, i2, i3⟩ := F.f2 k k4
   have k2' : (zk a && Zu a == 0) = false := k2
   have hb : z8 a = true := by rw [i1, k2']; rfl
   exact ⟨1, ⟨hb, by rw [i3]; rfl, i2⟩, rfl⟩
  ·obtain ⟨z1, z2, z3⟩ := hz
   have fr := F.fr
   rw [← z3] at fr
   refine ⟨fun hh => ⟨⟨by omega, by omega⟩, rfl, ⟨?_, ?_⟩, z1.symm⟩, fun hh => ⟨rfl, ⟨?_, ?_⟩, z1.symm⟩⟩
   ·rw [z1, fr, hgt.1 hh]; rfl
   ·rw [z1]; exact z2
   ·have : zk a = false := Bool.eq_false_iff.2 fun e => by have := hgt.2 e; omega
    rw [z1, fr, this]; rfl
   ·rw [z1]; exact z2
theorem NK (a : List UInt8) (hl : a.length ≤ 9223372036854775807) : zt Tryz.prog [] 55 [.str a] (.tup 2 (zw [.agg 2 (zw [.i (bif z8 a then zL a else 0), .i (bif z8 a then (zP a : Int) else 0)]), .b (z8 a)])) :=
 zW (T := gQ) (an := M3 a) mixed oK (Eq.mp (by kernel_rfl) (Le a hl))
theorem sM : zp Tryz.prog [] 55 Vr := by
 intro xs ps r h hp
 unfold Vr at h
 split at h
 ·skip
  rename_i a
  cases h
  obtain ⟨q0, -⟩ := ZI hp
  exact weaken (ys := [.str a]) ⟨zS _, trivial⟩ (NK a q0)
 ·cases h
end Go.Te
