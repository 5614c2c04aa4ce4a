/- rational: nativeOf. -/
import Derived.Test.YtgpbohfbhfbelaaGreatDoorTkS
set_option linter.unusedSimpArgs false
set_option linter.unusedVariables false
namespace Go.Te
open Go Go.Sx Go.Proofs Go.Ar
set_option maxRecDepth 100000
set_option maxHeartbeats 4000000
def Zw (a : zL) : Bool := zN a == 0 && leB ((zp (zu a)).length : Int) 8 && leB ((zg (zu a)).length : Int) 8
theorem TJ (s : zL) : w7 s ++ s.drop (w7 s).length = s := by
 have h : s = s.takeWhile Zs ++ s.dropWhile Zs := (List.takeWhile_append_dropWhile).symm
 have gen : ∀ t u : zL, t ++ u = s → s.drop t.length = u := by
  rintro t u rfl
  exact List.drop_left
 have h2 : s.drop (w7 s).length = s.dropWhile Zs := gen _ _ h.symm
 rw [h2]
 exact h.symm
theorem Lu (s : zL) : ∀ c ∈ w7 s, Zs c = true := fun c hc => List.all_eq_true.1 (List.all_takeWhile (l := s) (p := Zs)) c hc
theorem wS {s : zL} : Z5 s = true ↔ z6 (w7 s) = true ∧ (w7 s).length ≤ 8 := by
 unfold Z5
 rw [Bool.and_eq_true, ze]
 exact ⟨fun h => ⟨h.1, by omega⟩, fun h => ⟨h.1, by omega⟩⟩
theorem Xu {s : zL} (h : Z5 s = true) : Zt s = (zm (w7 s) : Int) ∧ ZZ s = s.drop (w7 s).length ∧ w7 s ++ ZZ s = s ∧ 0 ≤ Zt s ∧ Zt s ≤ 99999999 := by
 have e1 : Zt s = (zm (w7 s) : Int) := by unfold Zt; rw [h]; rfl
 have e2 : ZZ s = s.drop (w7 s).length := by unfold ZZ; rw [h]; rfl
 obtain ⟨h1, h2⟩ := wS.1 h
 have b := Yl h1 (k := 8) h2
 rw [show 10 ^ 8 = 100000000 from by decide] at b
 exact ⟨e1, e2, by rw [e2]; exact TJ s, by omega, by omega⟩
theorem S6 {s : zL} (h : z6 s = true) : w7 s = s := by
 have := rA (a := s) (b := []) (Zx.1 h).2.1
 rw [List.append_nil] at this
 rw [this]
 show s ++ [] = s
 simp
theorem Rb {s : zL} (h : z6 s = true) (hl : s.length ≤ 8) : Z5 s = true ∧ Zt s = (zm s : Int) ∧ ZZ s = [] := by
 have ht := S6 h
 have ho : Z5 s = true := wS.2 (by rw [ht]; exact ⟨h, hl⟩)
 obtain ⟨n1, n2, _⟩ := Xu ho
 rw [ht] at n1 n2
 exact ⟨ho, n1, by rw [n2]; simp⟩
theorem tE {s : zL} (h : Z5 s = true) (hr : ZZ s = []) : z6 s = true ∧ s.length ≤ 8 ∧ Zt s = (zm s : Int) := by
 obtain ⟨n1, n2, n3, _⟩ := Xu h
 rw [hr, List.append_nil] at n3
 obtain ⟨h1, h2⟩ := wS.1 h
 rw [n3] at h1 h2 n1
 exact ⟨h1, h2, n1⟩
theorem wz {a : zL} : Zw a = true ↔ XQ a = true ∧ (zp (zu a)).length ≤ 8 ∧ (zg (zu a)).length ≤ 8 ∧ (zk (zu a) = true → Nat.gcd (zm (zp (zu a))) (zm (zg (zu a))) = 1) := by
 unfold Zw
 rw [Bool.and_eq_true, Bool.and_eq_true, ze, ze, beq_iff_eq]
 constructor
 ·rintro ⟨⟨h1, h2⟩, h3⟩
  cases hf : XQ a with
  | false => rw [VE hf] at h1; cases h1
  | true =>
   refine ⟨rfl, by omega, by omega, fun hs => ?_⟩
   rw [VJ hf ⟨by omega, by omega⟩ hs] at h1
   cases hg : Nat.beq (Nat.gcd (zm (zp (zu a))) (zm (zg (zu a)))) 1 with
   | true => exact Nat.eq_of_beq_eq_true hg
   | false => rw [hg] at h1; cases h1
 ·rintro ⟨h1, h2, h3, h4⟩
  refine ⟨⟨?_, by omega⟩, by omega⟩
  cases hs : zk (zu a) with
  | false => exact tO h1 (by omega) hs
  | true =>
   rw [VJ h1 ⟨by omega, by omega⟩ hs, h4 hs]
   rfl
theorem YP {a : zL} : XQ a = true ↔ z6 (zp (zu a)) = true ∧ ¬ (zG a = true ∧ zp (zu a) = [48]) ∧ (zk (zu a) = true → z6 (zg (zu a)) = true ∧ zg (zu a) ≠ [48] ∧ zg (zu a) ≠ [49]) := by
 unfold XQ
 rw [Bool.and_eq_true, Bool.and_eq_true, Bool.not_eq_true', Bool.and_eq_false_iff, Bool.or_eq_true, Bool.and_eq_true, Bool.and_eq_true, Bool.not_eq_true', Bool.not_eq_true', Bool.not_eq_true', beq_eq_false_iff_ne, beq_eq_false_iff_ne, beq_eq_false_iff_ne]
 constructor
 ·rintro ⟨⟨h1, h2⟩, h3⟩
  refine ⟨h1, fun h => ?_, fun h => ?_⟩
  ·rcases h2 with h2 | h2
   ·rw [h.1] at h2; cases h2
   ·exact h2 h.2
  ·rcases h3 with h3 | h3
   ·rw [h] at h3; cases h3
   ·exact ⟨h3.1.1, h3.1.2, h3.2⟩
 ·rintro ⟨h1, h2, h3⟩
  refine ⟨⟨h1, ?_⟩, ?_⟩
  ·cases hm : zG a with
   | false => exact .inl rfl
   | true => exact .inr fun e => h2 ⟨hm, e⟩
  ·cases hs : zk (zu a) with
   | false => exact .inl rfl
   | true => have := h3 hs; exact .inr ⟨⟨this.1, this.2.1⟩, this.2.2⟩
theorem OF {s : zL} (h : z6 s = true) : zm s = 0 ↔ s = [48] := ⟨fun e => uw h e, fun e => by rw [e]; decide⟩
theorem gh {s : zL} (h : z6 s = true) : zm s = 1 ↔ s = [49] := ⟨fun e => by
 have := Zl h
 rw [e, z7 (by omega)] at this
 exact this.symm, fun e => by rw [e]; decide⟩
structure NF (a o : zL) : Prop where
 f0 : Z5 o = false → Zw a = false
 f1 : Z5 o = true → 0 ≤ Zt o ∧ Zt o ≤ 99999999
 f2 : Z5 o = true → ZZ o = [] → Zw a = !(zG a && Zt o == 0) ∧ Zt o = (zm (zp (zu a)) : Int) ∧ zP a = 1
 f3 : Z5 o = true → ZZ o ≠ [] → (ZZ o).getD 0 0 ≠ 47 → Zw a = false
 f5 : Z5 o = true → (zG a && Zt o == 0) = true → Zw a = false
 f6 : Z5 o = true → ZZ o ≠ [] → (ZZ o).getD 0 0 = 47 → Z5 ((ZZ o).drop 1) = false → Zw a = false
 f7 : Z5 o = true → ZZ o ≠ [] → (ZZ o).getD 0 0 = 47 → Z5 ((ZZ o).drop 1) = true →
  (Zw a = true ↔ (zG a && Zt o == 0) = false ∧ ZZ ((ZZ o).drop 1) = [] ∧ 2 ≤ Zt ((ZZ o).drop 1) ∧ Wp (Zt o) (Zt ((ZZ o).drop 1)) = 1) ∧ Zt o = (zm (zp (zu a)) : Int) ∧ (Zw a = true → (zP a : Int) = Zt ((ZZ o).drop 1))
 fr : zJ a = bif zG a then -(zm (zp (zu a)) : Int) else (zm (zp (zu a)) : Int)
theorem S8 {a : zL} (h : Zw a = true) : Z5 (zu a) = true ∧ Zt (zu a) = (zm (zp (zu a)) : Int) ∧ ZZ (zu a) = (bif zk (zu a) then 47 :: zg (zu a) else []) := by
 obtain ⟨h1, h2, h3, h4⟩ := wz.1 h
 obtain ⟨g1, g2, g3⟩ := YP.1 h1
 have ht : w7 (zu a) = zp (zu a) ∧ (zu a).drop (zp (zu a)).length = (bif zk (zu a) then 47 :: zg (zu a) else []) := by
  cases hs : zk (zu a) with
  | false =>
   obtain ⟨c1, c2⟩ := X7 hs
   rw [c1] at g1 ⊢
   exact ⟨S6 g1, by simp⟩
  | true =>
   have he := Uu hs
   have e1 : w7 (zu a) = zp (zu a) := by
    conv => lhs; rw [he]
    rw [rA (Zx.1 g1).2.1]
    show zp (zu a) ++ [] = _
    rw [List.append_nil]
   refine ⟨e1, ?_⟩
   conv => lhs; arg 2; rw [he]
   rw [List.drop_left]
   rfl
 have ho : Z5 (zu a) = true := wS.2 (by rw [ht.1]; exact ⟨g1, h2⟩)
 obtain ⟨n1, n2, _⟩ := Xu ho
 rw [ht.1] at n1 n2
 exact ⟨ho, n1, by rw [n2, ht.2]⟩
theorem UH {a : zL} : zJ a = (bif zG a then -(zm (zp (zu a)) : Int) else (zm (zp (zu a)) : Int)) ∧ zP a = (bif zk (zu a) then zm (zg (zu a)) else 1) := by
 obtain ⟨_, _, _, _, _, h6, h7⟩ := YH a
 exact ⟨h6, h7⟩
theorem nf (a : zL) : NF a (zu a) := by
 obtain ⟨r1, r2⟩ := UH (a := a)
 have neg : Z5 (zu a) = true → (zG a && Zt (zu a) == 0) = true → Zw a = false := fun h hz => Bool.eq_false_iff.2 fun hb => by
  obtain ⟨_, n1, _⟩ := S8 hb
  obtain ⟨h1, _⟩ := wz.1 hb
  obtain ⟨g1, g2, _⟩ := YP.1 h1
  rw [Bool.and_eq_true, beq_iff_eq, n1] at hz
  exact g2 ⟨hz.1, (OF g1).1 (by omega)⟩
 have sm : Z5 (zu a) = true → ZZ (zu a) ≠ [] → (ZZ (zu a)).getD 0 0 = 47 → zp (zu a) = w7 (zu a) ∧ zg (zu a) = (ZZ (zu a)).drop 1 ∧ zk (zu a) = true := fun h h1 h2 => by
  obtain ⟨n1, n2, n3, _⟩ := Xu h
  have e : ZZ (zu a) = 47 :: (ZZ (zu a)).drop 1 := by
   match ZZ (zu a), h1, h2 with
   | c :: r, _, h2 => rw [show c = 47 from h2]; rfl
  rw [e] at n3
  have := t8 (a := w7 (zu a)) (b := (ZZ (zu a)).drop 1) fun c hc => tN (Lu _ c hc)
  rw [n3] at this
  exact this
 refine ⟨fun h => Bool.eq_false_iff.2 fun hb => ?_, fun h => (Xu h).2.2.2, fun h h1 => ?_, fun h h1 h2 => Bool.eq_false_iff.2 fun hb => ?_, neg, fun h h1 h2 h3 => Bool.eq_false_iff.2 fun hb => ?_, fun h h1 h2 h3 => ?_, r1⟩
 ·rw [(S8 hb).1] at h; cases h
 ·obtain ⟨b1, b2, b3⟩ := tE h h1
  obtain ⟨c1, c2, c3⟩ := Pw (s := zu a) fun i hi e => by
   have := (Zx.1 b1).2.1 _ (We (s := zu a) (i := i) hi)
   rw [e] at this
   cases this
  rw [c2, r2, c1]
  refine ⟨?_, b3, rfl⟩
  rw [Bool.eq_iff_iff, wz, YP, c1, c2, c3, Bool.not_eq_true', b3]
  constructor
  ·rintro ⟨⟨_, g2, _⟩, _⟩
   rw [Bool.and_eq_false_iff]
   cases hm : zG a with
   | false => exact .inl rfl
   | true => exact .inr (beq_eq_false_iff_ne.2 fun e => g2 ⟨hm, (OF b1).1 (by omega)⟩)
  ·intro g
   refine ⟨⟨b1, fun g2 => ?_, fun e => by cases e⟩, b2, by simp, fun e => by cases e⟩
   rw [g2.1, g2.2] at g
   cases g
 ·have := (S8 hb).2.2
  rw [this] at h1 h2
  cases hs : zk (zu a) with
  | false => rw [hs] at h1; exact h1 rfl
  | true => rw [hs] at h2; exact h2 rfl
 ·obtain ⟨c1, c2, c3⟩ := sm h h1 h2
  obtain ⟨k1, k2, k3, _⟩ := wz.1 hb
  have d1 := (YP.1 k1).2.2 c3
  rw [c2] at d1 k3
  rw [(Rb d1.1 k3).1] at h3
  cases h3
 ·obtain ⟨c1, c2, c3⟩ := sm h h1 h2
  obtain ⟨n1, _, _, _⟩ := Xu h
  obtain ⟨o1, o2⟩ := wS.1 h
  rw [c1, r2, c3, c2]
  obtain ⟨m1, _, _, m4, m5⟩ := Xu h3
  have hgO : Wp (Zt (zu a)) (Zt ((ZZ (zu a)).drop 1)) = (Nat.gcd (Zt (zu a)).toNat (Zt ((ZZ (zu a)).drop 1)).toNat : Int) := by
   unfold Wp
   rw [(ze _ _).2 (Xu h).2.2.2.1, (ze _ _).2 m4]
   rfl
  have key : Zw a = true ↔ (zG a && Zt (zu a) == 0) = false ∧ ZZ ((ZZ (zu a)).drop 1) = [] ∧ 2 ≤ Zt ((ZZ (zu a)).drop 1) ∧ Wp (Zt (zu a)) (Zt ((ZZ (zu a)).drop 1)) = 1 := by
   rw [wz, YP, c1, c2, c3, hgO]
   constructor
   ·rintro ⟨⟨_, g2, g3⟩, g4, g5, g6⟩
    obtain ⟨g7, g8, g9⟩ := g3 rfl
    obtain ⟨q1, q2, q3⟩ := Rb g7 g5
    have z0 : zm ((ZZ (zu a)).drop 1) ≠ 0 := fun e => g8 ((OF g7).1 e)
    have z1 : zm ((ZZ (zu a)).drop 1) ≠ 1 := fun e => g9 ((gh g7).1 e)
    refine ⟨?_, q3, by omega, ?_⟩
    ·rw [Bool.and_eq_false_iff]
     cases hm : zG a with
     | false => exact .inl rfl
     | true => exact .inr (beq_eq_false_iff_ne.2 fun e => g2 ⟨hm, (OF o1).1 (by omega)⟩)
    ·rw [n1, q2, Int.toNat_natCast, Int.toNat_natCast, g6 rfl]; rfl
   ·rintro ⟨g1, g2, g3, g4⟩
    obtain ⟨q1, q2, q3⟩ := tE h3 g2
    have z0 : zm ((ZZ (zu a)).drop 1) ≠ 0 := by omega
    have z1 : zm ((ZZ (zu a)).drop 1) ≠ 1 := by omega
    refine ⟨⟨o1, fun e => ?_, fun _ => ⟨q1, fun e => z0 ((OF q1).2 e), fun e => z1 ((gh q1).2 e)⟩⟩, o2, q2, fun _ => ?_⟩
    ·rw [e.1, n1, (OF o1).2 e.2] at g1
     cases g1
    ·rw [n1, q3, Int.toNat_natCast, Int.toNat_natCast] at g4
     omega
  refine ⟨key, n1, fun hb => ?_⟩
  obtain ⟨_, g2, _⟩ := key.1 hb
  obtain ⟨q1, q2, q3⟩ := tE h3 g2
  rw [q3]
  rfl
noncomputable def eo : Tb := (T0.plus 79 Sd).plus 80 Ry
theorem nj : zZ Tryz.prog eo := zZ.plus (zZ.plus zq kH) Mx
def Ko (a : zL) (x y : Z9) : Z9 := .join Int (fun σ _ => [(0, σ.tm 0), (2, σ.tm 2), (4, σ.tm 4), (5, σ.tm 5), (8, σ.tm 8)]) (fun σ z => [(1, .box 60 2 (zt [σ.tm 5, .i z]))]) 0
 (fun σ z => Zw a = true ∧ z = (zP a : Int) ∧ AV.int (σ.tm 5) = (zm (zp (zu a)) : Int)) x y
def Kl (a : zL) : Z9 := .two .auto (.two .auto (.two .auto (.two .auto (.split 7 .auto (.two .auto (Ko a (.two .auto (.two (.two .auto (.two .auto (.split 7 .auto .auto))) .auto)) .auto))))))
def vf : List AV → Option (List zn × AV)
 | [.str a] => some ([.p (a.length ≤ 9223372036854775807)], .tup 2 (zt [.agg 2 (zt [.i (bif Zw a then zJ a else 0), .i (bif Zw a then (zP a : Int) else 0)]), .b (Zw a)]))
 | _ => none
theorem KO (a : List UInt8) (hl : a.length ≤ 9223372036854775807) :
 let q1 := (!zS true !a == bA #[] || zS true !a == bA #[]); let q2 := (zH (lZ (List.drop 1 a)) (lZ a)); let q4 := (True ∧ 2 = 2 ∧ (kI ∧ iZ = bif Zw a then zJ a else iZ) ∧ kI ∧ iZ = bif Zw a then (cI (zP a)) else iZ); let q3 := (j2 ∧ q4 ∧ false = Zw a); let q5 := (lZ (ZZ (List.drop 1 a))); let q7 := (bif !true then true else !ZZ (List.drop 1 (ZZ
 (List.drop 1 a))) == bA #[]); let q6 := (!zS false q7 || zS false q7); let q10 := (Zt (List.drop 1 (ZZ (List.drop 1 a)))); let q9 := (bif bif !true then true else !ZZ (List.drop 1 (ZZ (List.drop 1 a))) == bA #[] then true else zH q10 (2 : Int)); let q8 := (!zS false q9 || zS false q9); let q11 := (aI (Zt (List.drop 1 a))); let q12 := (kI ∧ Zt (List.drop 1 a) = Zt (List.drop 1 a)); let q13 := (60 = 60 ∧ 2 = 2 ∧ (kI ∧ iZ = iZ)
 ∧ kI ∧ iZ = iZ); let q14 := (bif bif !false then true else !ZZ (List.drop 1 (ZZ (List.drop 1 a))) == bA #[] then true else zH q10 (2 : Int)); let q15 := (zH (lZ a) (lZ a)); let q17 := (bif !true then true else !ZZ (List.drop 1 (ZZ a)) == bA #[]); let q16 := (!zS false q17 || zS false q17); let q19 := (bif bif !true then true else !ZZ (List.drop 1 (ZZ a)) == bA #[] then true else zH (Zt
 (List.drop 1 (ZZ a))) (2 : Int)); let q18 := (!zS false q19 || zS false q19); let q20 := (bif bif !false then true else !ZZ (List.drop 1 (ZZ a)) == bA #[] then true else zH (Zt (List.drop 1 (ZZ a))) (2 : Int)); ZY [AV.str a] → bF q1 (bF (!zS true !a == bA #[] || DB.db (iZ ≤ iZ ∧ iZ < (lZ a))) (bF q1 (bF (!!a == bA #[] || zS true !a == bA #[]) (zY (bif
 !a == bA #[] then (cI (UInt8.toNat (gD a 0 (0 : UInt8)))) == (45 : Int) else false) (bF (DB.db (iZ ≤ iO ∧ iO ≤ (lZ a))) (lN (List.drop 1 a) ≤ nX ∧ zY (Z5 (List.drop 1 a)) (bF (!(zS false !true && zS true q2) || zS false !true && zS true q2) (bF (!zS false !true || (!zH (lZ (List.drop 1 a)) (lZ a) || zS false !true && zS true q2)) (zY (bif !true then true else bif zH (lZ (List.drop 1 a))
 (lZ a) then Zt (List.drop 1 a) == iZ else false) q3 (zY (!ZZ (List.drop 1 a) == bA #[]) (bF (DB.db (iZ ≤ iZ ∧ iZ < q5)) (zY ((cI (UInt8.toNat (gD (ZZ (List.drop 1 a)) 0 (0 : UInt8)))) != (47 : Int)) q3 (bF (DB.db (iZ ≤ iO ∧ iO ≤ q5)) (lN (List.drop 1 (ZZ (List.drop 1 a))) ≤ nX ∧ zY (Z5 (List.drop 1 (ZZ (List.drop 1 a)))) (bF q6 (bF q6 (bF ((!!bif !true then true else !ZZ (List.drop 1 (ZZ (List.drop 1
 a))) == bA #[]) || zS false q7) (bF q8 (bF q8 (bF q8 ((zS false q9 = true → iZ ≤ Zt (List.drop 1 a) ∧ Zt (List.drop 1 a) ≤ iX) ∧ (zS false q9 = true → iZ ≤ Zt (List.drop 1 (ZZ (List.drop 1 a))) ∧ Zt (List.drop 1 (ZZ (List.drop 1 a))) ≤ iX) ∧ bF q8 (bF ((!!bif bif !true then true else !ZZ (List.drop 1 (ZZ (List.drop 1 a))) == bA #[] then true else zH q10 (2 : Int)) || zS false q9) (zY (bif bif bif
 !true then true else !ZZ (List.drop 1 (ZZ (List.drop 1 a))) == bA #[] then true else zH q10 (2 : Int) then true else Wp (Zt (List.drop 1 a)) q10 != iO) q3 (∃ (z : Int), ((Zw a = true ∧ z = (cI (zP a)) ∧ AV.int q11 = (cI (zm (zp (zu a))))) ∧ a = a ∧ (nat_lit 0 = 0 ∧ 0 = 0) ∧ List.drop 1 a = List.drop 1 a ∧ q12 ∧ nat_lit 1 = 1 ∧ 0 = 0) ∧ q13 ∧ (60 : TypeId) = 60 ∧ 2 = 2 ∧ q12 ∧ kI ∧ Zt (List.drop 1 (ZZ (List.drop 1 a))) = z)))))))))) ((zS false q14 =
 true → iZ ≤ Zt (List.drop 1 a) ∧ Zt (List.drop 1 a) ≤ iX) ∧ (zS false q14 = true → iZ ≤ Zt (List.drop 1 (ZZ (List.drop 1 a))) ∧ Zt (List.drop 1 (ZZ (List.drop 1 a))) ≤ iX) ∧ j2 ∧ q4 ∧ false = Zw a))))) (∃ (z : Int), ((Zw a = true ∧ z = (cI (zP a)) ∧ AV.int q11 = (cI (zm (zp (zu a))))) ∧ a = a ∧ (nat_lit 0 = 0 ∧ 0 = 0) ∧ List.drop 1 a = List.drop 1 a ∧ q12 ∧ nat_lit 1 = 1 ∧ 0 = 0) ∧ q13 ∧ (60 : TypeId) = 60 ∧ 2 = 2 ∧ q12 ∧ kI ∧ iO =
 z) ∧ ∀ (z : Int), Zw a = true ∧ z = (cI (zP a)) ∧ AV.int q11 = (cI (zm (zp (zu a)))) → zY q2 (bF (dK (-Zt (List.drop 1 a))) (j2 ∧ (True ∧ 2 = 2 ∧ (kI ∧ -Zt (List.drop 1 a) = bif Zw a then zJ a else iZ) ∧ kI ∧ z = bif Zw a then (cI (zP a)) else iZ) ∧ true = Zw a)) (j2 ∧ (True ∧ 2 = 2 ∧ (kI ∧ Zt (List.drop 1 a) = bif Zw a then zJ a else iZ) ∧ kI ∧ z = bif Zw a then (↑(zP a) :
 Int) else iZ) ∧ true = Zw a))))) q3)) (lN a ≤ nX ∧ zY (Z5 a) (bF (!(zS false !true && zS true q15) || zS false !true && zS true q15) (bF (!zS false !true || (!zH (lZ a) (lZ a) || zS false !true && zS true q15)) (zY (bif !true then true else bif zH (lZ a) (lZ a) then Zt a == iZ else false) q3 (zY (!ZZ a == bA #[]) (bF (DB.db (iZ ≤ iZ ∧ iZ < (cI (List.length
 (ZZ a))))) (zY ((cI (UInt8.toNat (gD (ZZ a) 0 (0 : UInt8)))) != (47 : Int)) q3 (bF (DB.db (iZ ≤ iO ∧ iO ≤ (lZ (ZZ a)))) (lN (List.drop 1 (ZZ a)) ≤ nX ∧ zY (Z5 (List.drop 1 (ZZ a))) (bF q16 (bF q16 (bF ((!!bif !true then true else !ZZ (List.drop 1 (ZZ a)) == bA #[]) || zS false q17) (bF q18 (bF q18 (bF q18 ((zS false q19 = true → iZ ≤ Zt a ∧ Zt a ≤ iX) ∧ (zS false q19 = true → (0
 : Int) ≤ Zt (List.drop 1 (ZZ a)) ∧ Zt (List.drop 1 (ZZ a)) ≤ iX) ∧ bF q18 (bF ((!!bif bif !true then true else !ZZ (List.drop 1 (ZZ a)) == bA #[] then true else zH (Zt (List.drop 1 (ZZ a))) (2 : Int)) || zS false q19) (zY (bif bif bif !true then true else !ZZ (List.drop 1 (ZZ a)) == bA #[] then true else zH (Zt (List.drop 1 (ZZ a))) (2 : Int) then true else Wp (Zt a) (Zt (List.drop 1 (ZZ a))) != iO) q3 (∃ (z : Int), ((Zw a = true ∧
 z = (cI (zP a)) ∧ AV.int (aI (Zt a)) = (cI (zm (zp (zu a))))) ∧ a = a ∧ (nat_lit 0 = 0 ∧ 0 = 0) ∧ a = a ∧ (kI ∧ Zt a = Zt a) ∧ nat_lit 1 = 1 ∧ 0 = 0) ∧ q13 ∧ (60 : TypeId) = 60 ∧ 2 = 2 ∧ (kI ∧ Zt a = Zt a) ∧ kI ∧ Zt (List.drop 1 (ZZ a)) = z)))))))))) ((zS false q20 = true → iZ ≤ Zt a ∧ Zt a ≤ iX) ∧ (zS false q20 = true → iZ ≤ Zt (List.drop 1 (ZZ a)) ∧ Zt (List.drop 1 (ZZ a)) ≤ (9223372036854775807
 : Int)) ∧ j2 ∧ q4 ∧ false = Zw a))))) (∃ (z : Int), ((Zw a = true ∧ z = (cI (zP a)) ∧ AV.int (aI (Zt a)) = (cI (zm (zp (zu a))))) ∧ a = a ∧ (nat_lit 0 = 0 ∧ 0 = 0) ∧ a = a ∧ (kI ∧ Zt a = Zt a) ∧ nat_lit 1 = 1 ∧ 0 = 0) ∧ q13 ∧ (60 : TypeId) = 60 ∧ 2 = 2 ∧ (kI ∧ Zt a = Zt a) ∧ kI ∧ iO = z) ∧ ∀ (z : Int), Zw a = true ∧ z = (cI (zP a)) ∧ AV.int (aI (Zt a)) = (cI (zm (zp (zu a)))) → zY q15 (bF (DB.db (Y1
 .i64 (-Zt a))) (j2 ∧ (True ∧ 2 = 2 ∧ (kI ∧ -Zt a = bif Zw a then zJ a else iZ) ∧ kI ∧ z = bif Zw a then (cI (zP a)) else iZ) ∧ true = Zw a)) (j2 ∧ (True ∧ 2 = 2 ∧ (kI ∧ Zt a = bif Zw a then zJ a else iZ) ∧ kI ∧ z = bif Zw a then (cI (zP a)) else iZ) ∧ true = Zw a))))) q3))))) := by
 delta bF dK bA nX cI kI j2 lZ lN gD iZ iO iX aI
 dsimp only
 intro hb
 simp only [sS, dS, Za]
 have em : (!(a == []) && ((a.getD 0 0).toNat : Int) == 45) = zG a := by
  rw [show (((a.getD 0 0).toNat : Int) == 45) = (a.getD 0 0 == 45) from YV (a.getD 0 0) 45 (by decide)]
  unfold zG
  match a with
  | [] => rfl
  | c :: r => simp
 have e47 : ∀ c : UInt8, ((c.toNat : Int) = 47) ↔ c = 47 := fun c => by
  have := YV c 47 (by decide)
  rw [Bool.eq_iff_iff, beq_iff_eq, beq_iff_eq] at this
  exact this
 have bad : Zw a = false → 2 = [AV.junk, AV.junk].length ∧ ((0 = bif Zw a then zJ a else 0) ∧ 0 = bif Zw a then (zP a : Int) else 0) ∧ false = Zw a := fun h => by rw [h]; exact ⟨rfl, ⟨rfl, rfl⟩, rfl⟩
 have rb : ∀ s : zL, Z5 s = true → 0 ≤ Zt s ∧ Zt s ≤ 9223372036854775807 := fun s h => by have := (Xu h).2.2.2; omega
 have F := nf a
 rw [em]
 simp only [e47, ne_eq]
 have hpos : (!(a == [])) = true → 0 < a.length := fun h => by
  match a, h with
  | c :: r, _ => simp
 refine ⟨fun h => ⟨Int.le_refl _, by have := hpos h; omega⟩, zv.2 ⟨fun c => ?_, fun c => ?_⟩⟩
 ·have hown : zu a = a.drop 1 := by unfold zu; rw [c]; rfl
  have hl1 := (Q5 c).2
  have hlt : zH ((a.drop 1).length : Int) (a.length : Int) = zG a := by rw [c, zR, List.length_drop]; omega
  rw [hown] at F
  refine ⟨⟨by omega, by omega⟩, by rw [List.length_drop]; omega, ?_⟩
  generalize ho : a.drop 1 = o at *
  have hlo : o.length ≤ a.length := by rw [← ho, List.length_drop]; omega
  have hgt : (o.length : Int) < (a.length : Int) ↔ zG a = true := by rw [← hlt, zR]
  rw [hlt]
  refine zv.2 ⟨fun k => ?_, fun k => bad (F.f0 k)⟩
  refine Wt (by cases zG a <;> rfl) ?_
  have hb1 := rb _ k
  refine zv.2 ⟨fun k2 => bad (F.f5 k (by simpa using k2)), fun k2 => ⟨zv.2 ⟨fun k3 => ?_, fun k3 => ?_⟩, fun z hz => ?_⟩⟩
  ·have k4 : ZZ o ≠ [] := by simpa using k3
   have k5 : 0 < (ZZ o).length := Nat.pos_of_ne_zero fun e => k4 (List.eq_nil_of_length_eq_zero e)
   have k6 : (ZZ o).length ≤ o.length := by
    obtain ⟨_, _, h3, _⟩ := Xu k
    have := congrArg List.length h3
    rw [List.length_append] at this
    omega
   refine ⟨⟨by omega, by omega⟩, fun hne => bad (F.f3 k k4 hne), fun he => ⟨⟨by omega, by omega⟩, by rw [List.length_drop]; omega, zv.2 ⟨fun k7 => ?_, fun k7 => ?_⟩⟩⟩
   ·obtain ⟨i1, i2, i3⟩ := F.f7 k k4 he k7
    refine ⟨fun _ => hb1, fun _ => rb _ k7, zv.2 ⟨fun k8 => bad (Bool.eq_false_iff.2 fun hb => ?_), fun k8 => ?_⟩⟩
    ·obtain ⟨j1, j2, j3, j4⟩ := i1.1 hb
     rw [j2, j4, show zH (Zt ((ZZ o).drop 1)) 2 = false from Bool.eq_false_iff.2 fun e => by have := (zR _ _).1 e; omega] at k8
     cases k8
    ·have hb : Zw a = true := i1.2 (by
      rw [Bool.or_eq_false_iff, Bool.or_eq_false_iff] at k8
      obtain ⟨⟨q1, q2⟩, q3⟩ := k8
      refine ⟨by simpa using k2, by simpa using q1, ?_, by simpa using q3⟩
      refine Decidable.byContradiction fun hn => ?_
      rw [(zR _ _).2 (by omega)] at q2
      cases q2)
     exact ⟨_, ⟨hb, (i3 hb).symm, i2⟩, rfl⟩
   ·exact ⟨fun h => by simp at h, fun h => by simp at h, bad (F.f6 k k4 he k7)⟩
  ·have k4 : ZZ o = [] := by simpa using k3
   obtain ⟨i1, i2, i3⟩ := F.f2 k k4
   have k2' : (zG a && Zt o == 0) = false := k2
   have hb : Zw a = true := by rw [i1, k2']; rfl
   exact ⟨1, ⟨hb, by rw [i3]; rfl, i2⟩, rfl⟩
  ·obtain ⟨z1, z2, z3⟩ := hz
   have fr := F.fr
   rw [← z3] at fr
   refine ⟨fun hh => ⟨⟨by omega, by omega⟩, rfl, ⟨?_, ?_⟩, z1.symm⟩, fun hh => ⟨rfl, ⟨?_, ?_⟩, z1.symm⟩⟩
   ·rw [z1, fr, hgt.1 hh]; rfl
   ·rw [z1]; exact z2
   ·have : zG a = false := Bool.eq_false_iff.2 fun e => by have := hgt.2 e; omega
    rw [z1, fr, this]; rfl
   ·rw [z1]; exact z2
 ·have hown : zu a = a := by unfold zu; rw [c]; rfl
  have hlt : zH (a.length : Int) (a.length : Int) = zG a := by rw [c, Bool.eq_false_iff, Ne, zR]; omega
  rw [hown] at F
  have hlo : a.length ≤ a.length := Nat.le_refl _
  have hgt : (a.length : Int) < (a.length : Int) ↔ zG a = true := by rw [← hlt, zR]
  refine ⟨by omega, ?_⟩
  rw [hlt]
  refine zv.2 ⟨fun k => ?_, fun k => bad (F.f0 k)⟩
  refine Wt (by cases zG a <;> rfl) ?_
  have hb1 := rb _ k
  refine zv.2 ⟨fun k2 => bad (F.f5 k (by simpa using k2)), fun k2 => ⟨zv.2 ⟨fun k3 => ?_, fun k3 => ?_⟩, fun z hz => ?_⟩⟩
  ·have k4 : ZZ a ≠ [] := by simpa using k3
   have k5 : 0 < (ZZ a).length := Nat.pos_of_ne_zero fun e => k4 (List.eq_nil_of_length_eq_zero e)
   have k6 : (ZZ a).length ≤ a.length := by
    obtain ⟨_, _, h3, _⟩ := Xu k
    have := congrArg List.length h3
    rw [List.length_append] at this
    omega
   refine ⟨⟨by omega, by omega⟩, fun hne => bad (F.f3 k k4 hne), fun he => ⟨⟨by omega, by omega⟩, by rw [List.length_drop]; omega, zv.2 ⟨fun k7 => ?_, fun k7 => ?_⟩⟩⟩
   ·obtain ⟨i1, i2, i3⟩ := F.f7 k k4 he k7
    refine ⟨fun _ => hb1, fun _ => rb _ k7, zv.2 ⟨fun k8 => bad (Bool.eq_false_iff.2 fun hb => ?_), fun k8 => ?_⟩⟩
    ·obtain ⟨j1, j2, j3, j4⟩ := i1.1 hb
     rw [j2, j4, show zH (Zt ((ZZ a).drop 1)) 2 = false from Bool.eq_false_iff.2 fun e => by have := (zR _ _).1 e; omega] at k8
     cases k8
    ·have hb : Zw a = true := i1.2 (by
      rw [Bool.or_eq_false_iff, Bool.or_eq_false_iff] at k8
      obtain ⟨⟨q1, q2⟩, q3⟩ := k8
      refine ⟨by simpa using k2, by simpa using q1, ?_, by simpa using q3⟩
      refine Decidable.byContradiction fun hn => ?_
      rw [(zR _ _).2 (by omega)] at q2
      cases q2)
     exact ⟨_, ⟨hb, (i3 hb).symm, i2⟩, rfl⟩
   ·exact ⟨fun h => by simp at h, fun h => by simp at h, bad (F.f6 k k4 he k7)⟩
  ·have k4 : ZZ a = [] := by simpa using k3
   obtain ⟨i1, i2, i3⟩ := F.f2 k k4
   have k2' : (zG a && Zt a == 0) = false := k2
   have hb : Zw a = true := by rw [i1, k2']; rfl
   exact ⟨1, ⟨hb, by rw [i3]; rfl, i2⟩, rfl⟩
  ·obtain ⟨z1, z2, z3⟩ := hz
   have fr := F.fr
   rw [← z3] at fr
   refine ⟨fun hh => ⟨⟨by omega, by omega⟩, rfl, ⟨?_, ?_⟩, z1.symm⟩, fun hh => ⟨rfl, ⟨?_, ?_⟩, z1.symm⟩⟩
   ·rw [z1, fr, hgt.1 hh]; rfl
   ·rw [z1]; exact z2
   ·have : zG a = false := Bool.eq_false_iff.2 fun e => by have := hgt.2 e; omega
    rw [z1, fr, this]; rfl
   ·rw [z1]; exact z2
theorem HF (a : List UInt8) (hl : a.length ≤ 9223372036854775807) : zT Tryz.prog [] 30 [.str a] (.tup 2 (zt [.agg 2 (zt [.i (bif Zw a then zJ a else 0), .i (bif Zw a then (zP a : Int) else 0)]), .b (Zw a)])) :=
 zU (T := eo) (an := Kl a) mixed nj (Eq.mp (by kernel_rfl) (KO a hl))
theorem tC : zQ Tryz.prog [] 30 vf := by
 intro xs ps r h hp
 unfold vf at h
 split at h
 ·skip
  rename_i a
  cases h
  obtain ⟨q0, -⟩ := Zo hp
  exact weaken (ys := [.str a]) ⟨zr _, trivial⟩ (HF a q0)
 ·cases h
end Go.Te
