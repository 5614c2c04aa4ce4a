/- rational: nativeOf. -/
import Derived.Test.YtinnclmkhedgeaaGreatDoorTfS
set_option linter.unusedSimpArgs false
set_option linter.unusedVariables false
namespace Go.Te
open Go Go.Sx Go.Proofs Go.Ar
set_option maxRecDepth 100000
set_option maxHeartbeats 4000000
def zZ (a : zK) : Bool := Zr a == 0 && leB ((zp (zt a)).length : Int) 8 && leB ((zh (zt a)).length : Int) 8
theorem W7 (s : zK) : xx s ++ s.drop (xx s).length = s := by
 have h : s = s.takeWhile Zw ++ s.dropWhile Zw := (List.takeWhile_append_dropWhile).symm
 have gen : ∀ t u : zK, t ++ u = s → s.drop t.length = u := by
  rintro t u rfl
  exact List.drop_left
 have h2 : s.drop (xx s).length = s.dropWhile Zw := gen _ _ h.symm
 rw [h2]
 exact h.symm
theorem RG (s : zK) : ∀ c ∈ xx s, Zw c = true := fun c hc => List.all_eq_true.1 (List.all_takeWhile (l := s) (p := Zw)) c hc
theorem YI {s : zK} : Zt s = true ↔ Zq (xx s) = true ∧ (xx s).length ≤ 8 := by
 unfold Zt
 rw [Bool.and_eq_true, ZY]
 exact ⟨fun h => ⟨h.1, by omega⟩, fun h => ⟨h.1, by omega⟩⟩
theorem YU {s : zK} (h : Zt s = true) : zf s = (zH (xx s) : Int) ∧ zJ s = s.drop (xx s).length ∧ xx s ++ zJ s = s ∧ 0 ≤ zf s ∧ zf s ≤ 99999999 := by
 have e1 : zf s = (zH (xx s) : Int) := by unfold zf; rw [h]; rfl
 have e2 : zJ s = s.drop (xx s).length := by unfold zJ; rw [h]; rfl
 obtain ⟨h1, h2⟩ := YI.1 h
 have b := Xn h1 (k := 8) h2
 rw [show 10 ^ 8 = 100000000 from by decide] at b
 exact ⟨e1, e2, by rw [e2]; exact W7 s, by omega, by omega⟩
theorem uC {s : zK} (h : Zq s = true) : xx s = s := by
 have := uP (a := s) (b := []) (ZQ.1 h).2.1
 rw [List.append_nil] at this
 rw [this]
 show s ++ [] = s
 simp
theorem Uf {s : zK} (h : Zq s = true) (hl : s.length ≤ 8) : Zt s = true ∧ zf s = (zH s : Int) ∧ zJ s = [] := by
 have ht := uC h
 have ho : Zt s = true := YI.2 (by rw [ht]; exact ⟨h, hl⟩)
 obtain ⟨n1, n2, _⟩ := YU ho
 rw [ht] at n1 n2
 exact ⟨ho, n1, by rw [n2]; simp⟩
theorem vx {s : zK} (h : Zt s = true) (hr : zJ s = []) : Zq s = true ∧ s.length ≤ 8 ∧ zf s = (zH s : Int) := by
 obtain ⟨n1, n2, n3, _⟩ := YU h
 rw [hr, List.append_nil] at n3
 obtain ⟨h1, h2⟩ := YI.1 h
 rw [n3] at h1 h2 n1
 exact ⟨h1, h2, n1⟩
theorem Yi {a : zK} : zZ a = true ↔ Xi a = true ∧ (zp (zt a)).length ≤ 8 ∧ (zh (zt a)).length ≤ 8 ∧ (zT (zt a) = true → Nat.gcd (zH (zp (zt a))) (zH (zh (zt a))) = 1) := by
 unfold zZ
 rw [Bool.and_eq_true, Bool.and_eq_true, ZY, ZY, beq_iff_eq]
 constructor
 ·rintro ⟨⟨h1, h2⟩, h3⟩
  cases hf : Xi a with
  | false => rw [rT hf] at h1; cases h1
  | true =>
   refine ⟨rfl, by omega, by omega, fun hs => ?_⟩
   rw [tW hf ⟨by omega, by omega⟩ hs] at h1
   cases hg : Nat.beq (Nat.gcd (zH (zp (zt a))) (zH (zh (zt a)))) 1 with
   | true => exact Nat.eq_of_beq_eq_true hg
   | false => rw [hg] at h1; cases h1
 ·rintro ⟨h1, h2, h3, h4⟩
  refine ⟨⟨?_, by omega⟩, by omega⟩
  cases hs : zT (zt a) with
  | false => exact qR h1 (by omega) hs
  | true =>
   rw [tW h1 ⟨by omega, by omega⟩ hs, h4 hs]
   rfl
theorem YG {a : zK} : Xi a = true ↔ Zq (zp (zt a)) = true ∧ ¬ (zE a = true ∧ zp (zt a) = [48]) ∧ (zT (zt a) = true → Zq (zh (zt a)) = true ∧ zh (zt a) ≠ [48] ∧ zh (zt a) ≠ [49]) := by
 unfold Xi
 rw [Bool.and_eq_true, Bool.and_eq_true, Bool.not_eq_true', Bool.and_eq_false_iff, Bool.or_eq_true, Bool.and_eq_true, Bool.and_eq_true, Bool.not_eq_true', Bool.not_eq_true', Bool.not_eq_true', beq_eq_false_iff_ne, beq_eq_false_iff_ne, beq_eq_false_iff_ne]
 constructor
 ·rintro ⟨⟨h1, h2⟩, h3⟩
  refine ⟨h1, fun h => ?_, fun h => ?_⟩
  ·rcases h2 with h2 | h2
   ·rw [h.1] at h2; cases h2
   ·exact h2 h.2
  ·rcases h3 with h3 | h3
   ·rw [h] at h3; cases h3
   ·exact ⟨h3.1.1, h3.1.2, h3.2⟩
 ·rintro ⟨h1, h2, h3⟩
  refine ⟨⟨h1, ?_⟩, ?_⟩
  ·cases hm : zE a with
   | false => exact .inl rfl
   | true => exact .inr fun e => h2 ⟨hm, e⟩
  ·cases hs : zT (zt a) with
   | false => exact .inl rfl
   | true => have := h3 hs; exact .inr ⟨⟨this.1, this.2.1⟩, this.2.2⟩
theorem se {s : zK} (h : Zq s = true) : zH s = 0 ↔ s = [48] := ⟨fun e => v8 h e, fun e => by rw [e]; decide⟩
theorem Oz {s : zK} (h : Zq s = true) : zH s = 1 ↔ s = [49] := ⟨fun e => by
 have := Zo h
 rw [e, zg (by omega)] at this
 exact this.symm, fun e => by rw [e]; decide⟩
structure NF (a o : zK) : Prop where
 f0 : Zt o = false → zZ a = false
 f1 : Zt o = true → 0 ≤ zf o ∧ zf o ≤ 99999999
 f2 : Zt o = true → zJ o = [] → zZ a = !(zE a && zf o == 0) ∧ zf o = (zH (zp (zt a)) : Int) ∧ zU a = 1
 f3 : Zt o = true → zJ o ≠ [] → (zJ o).getD 0 0 ≠ 47 → zZ a = false
 f5 : Zt o = true → (zE a && zf o == 0) = true → zZ a = false
 f6 : Zt o = true → zJ o ≠ [] → (zJ o).getD 0 0 = 47 → Zt ((zJ o).drop 1) = false → zZ a = false
 f7 : Zt o = true → zJ o ≠ [] → (zJ o).getD 0 0 = 47 → Zt ((zJ o).drop 1) = true →
  (zZ a = true ↔ (zE a && zf o == 0) = false ∧ zJ ((zJ o).drop 1) = [] ∧ 2 ≤ zf ((zJ o).drop 1) ∧ xn (zf o) (zf ((zJ o).drop 1)) = 1) ∧ zf o = (zH (zp (zt a)) : Int) ∧ (zZ a = true → (zU a : Int) = zf ((zJ o).drop 1))
 fr : zv a = bif zE a then -(zH (zp (zt a)) : Int) else (zH (zp (zt a)) : Int)
theorem uF {a : zK} (h : zZ a = true) : Zt (zt a) = true ∧ zf (zt a) = (zH (zp (zt a)) : Int) ∧ zJ (zt a) = (bif zT (zt a) then 47 :: zh (zt a) else []) := by
 obtain ⟨h1, h2, h3, h4⟩ := Yi.1 h
 obtain ⟨g1, g2, g3⟩ := YG.1 h1
 have ht : xx (zt a) = zp (zt a) ∧ (zt a).drop (zp (zt a)).length = (bif zT (zt a) then 47 :: zh (zt a) else []) := by
  cases hs : zT (zt a) with
  | false =>
   obtain ⟨c1, c2⟩ := yx hs
   rw [c1] at g1 ⊢
   exact ⟨uC g1, by simp⟩
  | true =>
   have he := xj hs
   have e1 : xx (zt a) = zp (zt a) := by
    conv => lhs; rw [he]
    rw [uP (ZQ.1 g1).2.1]
    show zp (zt a) ++ [] = _
    rw [List.append_nil]
   refine ⟨e1, ?_⟩
   conv => lhs; arg 2; rw [he]
   rw [List.drop_left]
   rfl
 have ho : Zt (zt a) = true := YI.2 (by rw [ht.1]; exact ⟨g1, h2⟩)
 obtain ⟨n1, n2, _⟩ := YU ho
 rw [ht.1] at n1 n2
 exact ⟨ho, n1, by rw [n2, ht.2]⟩
theorem Xc {a : zK} : zv a = (bif zE a then -(zH (zp (zt a)) : Int) else (zH (zp (zt a)) : Int)) ∧ zU a = (bif zT (zt a) then zH (zh (zt a)) else 1) := by
 obtain ⟨_, _, _, _, _, h6, h7⟩ := yL a
 exact ⟨h6, h7⟩
theorem nf (a : zK) : NF a (zt a) := by
 obtain ⟨r1, r2⟩ := Xc (a := a)
 have neg : Zt (zt a) = true → (zE a && zf (zt a) == 0) = true → zZ a = false := fun h hz => Bool.eq_false_iff.2 fun hb => by
  obtain ⟨_, n1, _⟩ := uF hb
  obtain ⟨h1, _⟩ := Yi.1 hb
  obtain ⟨g1, g2, _⟩ := YG.1 h1
  rw [Bool.and_eq_true, beq_iff_eq, n1] at hz
  exact g2 ⟨hz.1, (se g1).1 (by omega)⟩
 have sm : Zt (zt a) = true → zJ (zt a) ≠ [] → (zJ (zt a)).getD 0 0 = 47 → zp (zt a) = xx (zt a) ∧ zh (zt a) = (zJ (zt a)).drop 1 ∧ zT (zt a) = true := fun h h1 h2 => by
  obtain ⟨n1, n2, n3, _⟩ := YU h
  have e : zJ (zt a) = 47 :: (zJ (zt a)).drop 1 := by
   match zJ (zt a), h1, h2 with
   | c :: r, _, h2 => rw [show c = 47 from h2]; rfl
  rw [e] at n3
  have := vX (a := xx (zt a)) (b := (zJ (zt a)).drop 1) fun c hc => vN (RG _ c hc)
  rw [n3] at this
  exact this
 refine ⟨fun h => Bool.eq_false_iff.2 fun hb => ?_, fun h => (YU h).2.2.2, fun h h1 => ?_, fun h h1 h2 => Bool.eq_false_iff.2 fun hb => ?_, neg, fun h h1 h2 h3 => Bool.eq_false_iff.2 fun hb => ?_, fun h h1 h2 h3 => ?_, r1⟩
 ·rw [(uF hb).1] at h; cases h
 ·obtain ⟨b1, b2, b3⟩ := vx h h1
  obtain ⟨c1, c2, c3⟩ := S7 (s := zt a) fun i hi e => by
   have := (ZQ.1 b1).2.1 _ (tx (s := zt a) (i := i) hi)
   rw [e] at this
   cases this
  rw [c2, r2, c1]
  refine ⟨?_, b3, rfl⟩
  rw [Bool.eq_iff_iff, Yi, YG, c1, c2, c3, Bool.not_eq_true', b3]
  constructor
  ·rintro ⟨⟨_, g2, _⟩, _⟩
   rw [Bool.and_eq_false_iff]
   cases hm : zE a with
   | false => exact .inl rfl
   | true => exact .inr (beq_eq_false_iff_ne.2 fun e => g2 ⟨hm, (se b1).1 (by omega)⟩)
  ·intro g
   refine ⟨⟨b1, fun g2 => ?_, fun e => by cases e⟩, b2, by simp, fun e => by cases e⟩
   rw [g2.1, g2.2] at g
   cases g
 ·have := (uF hb).2.2
  rw [this] at h1 h2
  cases hs : zT (zt a) with
  | false => rw [hs] at h1; exact h1 rfl
  | true => rw [hs] at h2; exact h2 rfl
 ·obtain ⟨c1, c2, c3⟩ := sm h h1 h2
  obtain ⟨k1, k2, k3, _⟩ := Yi.1 hb
  have d1 := (YG.1 k1).2.2 c3
  rw [c2] at d1 k3
  rw [(Uf d1.1 k3).1] at h3
  cases h3
 ·obtain ⟨c1, c2, c3⟩ := sm h h1 h2
  obtain ⟨n1, _, _, _⟩ := YU h
  obtain ⟨o1, o2⟩ := YI.1 h
  rw [c1, r2, c3, c2]
  obtain ⟨m1, _, _, m4, m5⟩ := YU h3
  have hgO : xn (zf (zt a)) (zf ((zJ (zt a)).drop 1)) = (Nat.gcd (zf (zt a)).toNat (zf ((zJ (zt a)).drop 1)).toNat : Int) := by
   unfold xn
   rw [(ZY _ _).2 (YU h).2.2.2.1, (ZY _ _).2 m4]
   rfl
  have key : zZ a = true ↔ (zE a && zf (zt a) == 0) = false ∧ zJ ((zJ (zt a)).drop 1) = [] ∧ 2 ≤ zf ((zJ (zt a)).drop 1) ∧ xn (zf (zt a)) (zf ((zJ (zt a)).drop 1)) = 1 := by
   rw [Yi, YG, c1, c2, c3, hgO]
   constructor
   ·rintro ⟨⟨_, g2, g3⟩, g4, g5, g6⟩
    obtain ⟨g7, g8, g9⟩ := g3 rfl
    obtain ⟨q1, q2, q3⟩ := Uf g7 g5
    have z0 : zH ((zJ (zt a)).drop 1) ≠ 0 := fun e => g8 ((se g7).1 e)
    have z1 : zH ((zJ (zt a)).drop 1) ≠ 1 := fun e => g9 ((Oz g7).1 e)
    refine ⟨?_, q3, by omega, ?_⟩
    ·rw [Bool.and_eq_false_iff]
     cases hm : zE a with
     | false => exact .inl rfl
     | true => exact .inr (beq_eq_false_iff_ne.2 fun e => g2 ⟨hm, (se o1).1 (by omega)⟩)
    ·rw [n1, q2, Int.toNat_natCast, Int.toNat_natCast, g6 rfl]; rfl
   ·rintro ⟨g1, g2, g3, g4⟩
    obtain ⟨q1, q2, q3⟩ := vx h3 g2
    have z0 : zH ((zJ (zt a)).drop 1) ≠ 0 := by omega
    have z1 : zH ((zJ (zt a)).drop 1) ≠ 1 := by omega
    refine ⟨⟨o1, fun e => ?_, fun _ => ⟨q1, fun e => z0 ((se q1).2 e), fun e => z1 ((Oz q1).2 e)⟩⟩, o2, q2, fun _ => ?_⟩
    ·rw [e.1, n1, (se o1).2 e.2] at g1
     cases g1
    ·rw [n1, q3, Int.toNat_natCast, Int.toNat_natCast] at g4
     omega
  refine ⟨key, n1, fun hb => ?_⟩
  obtain ⟨_, g2, _⟩ := key.1 hb
  obtain ⟨q1, q2, q3⟩ := vx h3 g2
  rw [q3]
  rfl
noncomputable def nu : Tb := (T0.plus 110 uz).plus 111 um
theorem Sd : zz Tryz.prog nu := zz.plus (zz.plus zq QC) RO
def Qg (a : zK) (x y : yw) : yw := .join Int (fun σ _ => [(0, σ.tm 0), (2, σ.tm 2), (4, σ.tm 4), (5, σ.tm 5), (8, σ.tm 8)]) (fun σ z => [(1, .box 66 2 (zX [σ.tm 5, .i z]))]) 0
 (fun σ z => zZ a = true ∧ z = (zU a : Int) ∧ AV.int (σ.tm 5) = (zH (zp (zt a)) : Int)) x y
def qN (a : zK) : yw := .two .auto (.two .auto (.two .auto (.two .auto (.split 7 .auto (.two .auto (Qg a (.two .auto (.two (.two .auto (.two .auto (.split 7 .auto .auto))) .auto)) .auto))))))
def TS : List AV → Option (List zO × AV)
 | [.str a] => some ([.p (a.length ≤ 9223372036854775807)], .tup 2 (zX [.agg 2 (zX [.i (bif zZ a then zv a else 0), .i (bif zZ a then (zU a : Int) else 0)]), .b (zZ a)]))
 | _ => none
theorem qQ (a : List UInt8) (hl : a.length ≤ 9223372036854775807) :
 let q1 := (!zQ true !a == bA #[] || zQ true !a == bA #[]); let q2 := (zA (lZ (List.drop 1 a)) (lZ a)); let q4 := (True ∧ 2 = 2 ∧ (kI ∧ iZ = bif zZ a then zv a else iZ) ∧ kI ∧ iZ = bif zZ a then (cI (zU a)) else iZ); let q3 := (j2 ∧ q4 ∧ false = zZ a); let q5 := (lZ (zJ (List.drop 1 a))); let q7 := (bif !true then true else !zJ (List.drop 1 (zJ
 (List.drop 1 a))) == bA #[]); let q6 := (!zQ false q7 || zQ false q7); let q10 := (zf (List.drop 1 (zJ (List.drop 1 a)))); let q9 := (bif bif !true then true else !zJ (List.drop 1 (zJ (List.drop 1 a))) == bA #[] then true else zA q10 (2 : Int)); let q8 := (!zQ false q9 || zQ false q9); let q11 := (aI (zf (List.drop 1 a))); let q12 := (kI ∧ zf (List.drop 1 a) = zf (List.drop 1 a)); let q13 := (66 = 66 ∧ 2 = 2 ∧ (kI ∧ iZ = iZ)
 ∧ kI ∧ iZ = iZ); let q14 := (bif bif !false then true else !zJ (List.drop 1 (zJ (List.drop 1 a))) == bA #[] then true else zA q10 (2 : Int)); let q15 := (zA (lZ a) (lZ a)); let q17 := (bif !true then true else !zJ (List.drop 1 (zJ a)) == bA #[]); let q16 := (!zQ false q17 || zQ false q17); let q19 := (bif bif !true then true else !zJ (List.drop 1 (zJ a)) == bA #[] then true else zA (zf
 (List.drop 1 (zJ a))) (2 : Int)); let q18 := (!zQ false q19 || zQ false q19); let q20 := (bif bif !false then true else !zJ (List.drop 1 (zJ a)) == bA #[] then true else zA (zf (List.drop 1 (zJ a))) (2 : Int)); zb [AV.str a] → bF q1 (bF (!zQ true !a == bA #[] || DB.db (iZ ≤ iZ ∧ iZ < (lZ a))) (bF q1 (bF (!!a == bA #[] || zQ true !a == bA #[]) (zV (bif
 !a == bA #[] then (cI (UInt8.toNat (gD a 0 (0 : UInt8)))) == (45 : Int) else false) (bF (DB.db (iZ ≤ iO ∧ iO ≤ (lZ a))) (lN (List.drop 1 a) ≤ nX ∧ zV (Zt (List.drop 1 a)) (bF (!(zQ false !true && zQ true q2) || zQ false !true && zQ true q2) (bF (!zQ false !true || (!zA (lZ (List.drop 1 a)) (lZ a) || zQ false !true && zQ true q2)) (zV (bif !true then true else bif zA (lZ (List.drop 1 a))
 (lZ a) then zf (List.drop 1 a) == iZ else false) q3 (zV (!zJ (List.drop 1 a) == bA #[]) (bF (DB.db (iZ ≤ iZ ∧ iZ < q5)) (zV ((cI (UInt8.toNat (gD (zJ (List.drop 1 a)) 0 (0 : UInt8)))) != (47 : Int)) q3 (bF (DB.db (iZ ≤ iO ∧ iO ≤ q5)) (lN (List.drop 1 (zJ (List.drop 1 a))) ≤ nX ∧ zV (Zt (List.drop 1 (zJ (List.drop 1 a)))) (bF q6 (bF q6 (bF ((!!bif !true then true else !zJ (List.drop 1 (zJ (List.drop 1
 a))) == bA #[]) || zQ false q7) (bF q8 (bF q8 (bF q8 ((zQ false q9 = true → iZ ≤ zf (List.drop 1 a) ∧ zf (List.drop 1 a) ≤ iX) ∧ (zQ false q9 = true → iZ ≤ zf (List.drop 1 (zJ (List.drop 1 a))) ∧ zf (List.drop 1 (zJ (List.drop 1 a))) ≤ iX) ∧ bF q8 (bF ((!!bif bif !true then true else !zJ (List.drop 1 (zJ (List.drop 1 a))) == bA #[] then true else zA q10 (2 : Int)) || zQ false q9) (zV (bif bif bif
 !true then true else !zJ (List.drop 1 (zJ (List.drop 1 a))) == bA #[] then true else zA q10 (2 : Int) then true else xn (zf (List.drop 1 a)) q10 != iO) q3 (∃ (z : Int), ((zZ a = true ∧ z = (cI (zU a)) ∧ AV.int q11 = (cI (zH (zp (zt a))))) ∧ a = a ∧ (nat_lit 0 = 0 ∧ 0 = 0) ∧ List.drop 1 a = List.drop 1 a ∧ q12 ∧ nat_lit 1 = 1 ∧ 0 = 0) ∧ q13 ∧ (66 : TypeId) = 66 ∧ 2 = 2 ∧ q12 ∧ kI ∧ zf (List.drop 1 (zJ (List.drop 1 a))) = z)))))))))) ((zQ false q14 =
 true → iZ ≤ zf (List.drop 1 a) ∧ zf (List.drop 1 a) ≤ iX) ∧ (zQ false q14 = true → iZ ≤ zf (List.drop 1 (zJ (List.drop 1 a))) ∧ zf (List.drop 1 (zJ (List.drop 1 a))) ≤ iX) ∧ j2 ∧ q4 ∧ false = zZ a))))) (∃ (z : Int), ((zZ a = true ∧ z = (cI (zU a)) ∧ AV.int q11 = (cI (zH (zp (zt a))))) ∧ a = a ∧ (nat_lit 0 = 0 ∧ 0 = 0) ∧ List.drop 1 a = List.drop 1 a ∧ q12 ∧ nat_lit 1 = 1 ∧ 0 = 0) ∧ q13 ∧ (66 : TypeId) = 66 ∧ 2 = 2 ∧ q12 ∧ kI ∧ iO =
 z) ∧ ∀ (z : Int), zZ a = true ∧ z = (cI (zU a)) ∧ AV.int q11 = (cI (zH (zp (zt a)))) → zV q2 (bF (dK (-zf (List.drop 1 a))) (j2 ∧ (True ∧ 2 = 2 ∧ (kI ∧ -zf (List.drop 1 a) = bif zZ a then zv a else iZ) ∧ kI ∧ z = bif zZ a then (cI (zU a)) else iZ) ∧ true = zZ a)) (j2 ∧ (True ∧ 2 = 2 ∧ (kI ∧ zf (List.drop 1 a) = bif zZ a then zv a else iZ) ∧ kI ∧ z = bif zZ a then (↑(zU a) :
 Int) else iZ) ∧ true = zZ a))))) q3)) (lN a ≤ nX ∧ zV (Zt a) (bF (!(zQ false !true && zQ true q15) || zQ false !true && zQ true q15) (bF (!zQ false !true || (!zA (lZ a) (lZ a) || zQ false !true && zQ true q15)) (zV (bif !true then true else bif zA (lZ a) (lZ a) then zf a == iZ else false) q3 (zV (!zJ a == bA #[]) (bF (DB.db (iZ ≤ iZ ∧ iZ < (cI (List.length
 (zJ a))))) (zV ((cI (UInt8.toNat (gD (zJ a) 0 (0 : UInt8)))) != (47 : Int)) q3 (bF (DB.db (iZ ≤ iO ∧ iO ≤ (lZ (zJ a)))) (lN (List.drop 1 (zJ a)) ≤ nX ∧ zV (Zt (List.drop 1 (zJ a))) (bF q16 (bF q16 (bF ((!!bif !true then true else !zJ (List.drop 1 (zJ a)) == bA #[]) || zQ false q17) (bF q18 (bF q18 (bF q18 ((zQ false q19 = true → iZ ≤ zf a ∧ zf a ≤ iX) ∧ (zQ false q19 = true → (0
 : Int) ≤ zf (List.drop 1 (zJ a)) ∧ zf (List.drop 1 (zJ a)) ≤ iX) ∧ bF q18 (bF ((!!bif bif !true then true else !zJ (List.drop 1 (zJ a)) == bA #[] then true else zA (zf (List.drop 1 (zJ a))) (2 : Int)) || zQ false q19) (zV (bif bif bif !true then true else !zJ (List.drop 1 (zJ a)) == bA #[] then true else zA (zf (List.drop 1 (zJ a))) (2 : Int) then true else xn (zf a) (zf (List.drop 1 (zJ a))) != iO) q3 (∃ (z : Int), ((zZ a = true ∧
 z = (cI (zU a)) ∧ AV.int (aI (zf a)) = (cI (zH (zp (zt a))))) ∧ a = a ∧ (nat_lit 0 = 0 ∧ 0 = 0) ∧ a = a ∧ (kI ∧ zf a = zf a) ∧ nat_lit 1 = 1 ∧ 0 = 0) ∧ q13 ∧ (66 : TypeId) = 66 ∧ 2 = 2 ∧ (kI ∧ zf a = zf a) ∧ kI ∧ zf (List.drop 1 (zJ a)) = z)))))))))) ((zQ false q20 = true → iZ ≤ zf a ∧ zf a ≤ iX) ∧ (zQ false q20 = true → iZ ≤ zf (List.drop 1 (zJ a)) ∧ zf (List.drop 1 (zJ a)) ≤ (9223372036854775807
 : Int)) ∧ j2 ∧ q4 ∧ false = zZ a))))) (∃ (z : Int), ((zZ a = true ∧ z = (cI (zU a)) ∧ AV.int (aI (zf a)) = (cI (zH (zp (zt a))))) ∧ a = a ∧ (nat_lit 0 = 0 ∧ 0 = 0) ∧ a = a ∧ (kI ∧ zf a = zf a) ∧ nat_lit 1 = 1 ∧ 0 = 0) ∧ q13 ∧ (66 : TypeId) = 66 ∧ 2 = 2 ∧ (kI ∧ zf a = zf a) ∧ kI ∧ iO = z) ∧ ∀ (z : Int), zZ a = true ∧ z = (cI (zU a)) ∧ AV.int (aI (zf a)) = (cI (zH (zp (zt a)))) → zV q15 (bF (DB.db (yE
 .i64 (-zf a))) (j2 ∧ (True ∧ 2 = 2 ∧ (kI ∧ -zf a = bif zZ a then zv a else iZ) ∧ kI ∧ z = bif zZ a then (cI (zU a)) else iZ) ∧ true = zZ a)) (j2 ∧ (True ∧ 2 = 2 ∧ (kI ∧ zf a = bif zZ a then zv a else iZ) ∧ kI ∧ z = bif zZ a then (cI (zU a)) else iZ) ∧ true = zZ a))))) q3))))) := by
 delta bF dK bA nX cI kI j2 lZ lN gD iZ iO iX aI
 dsimp only
 intro hb
 simp only [sS, dS, xF]
 have em : (!(a == []) && ((a.getD 0 0).toNat : Int) == 45) = zE a := by
  rw [show (((a.getD 0 0).toNat : Int) == 45) = (a.getD 0 0 == 45) from XA (a.getD 0 0) 45 (by decide)]
  unfold zE
  match a with
  | [] => rfl
  | c :: r => simp
 have e47 : ∀ c : UInt8, ((c.toNat : Int) = 47) ↔ c = 47 := fun c => by
  have := XA c 47 (by decide)
  rw [Bool.eq_iff_iff, beq_iff_eq, beq_iff_eq] at this
  exact this
 have bad : zZ a = false → 2 = [AV.junk, AV.junk].length ∧ ((0 = bif zZ a then zv a else 0) ∧ 0 = bif zZ a then (zU a : Int) else 0) ∧ false = zZ a := fun h => by rw [h]; exact ⟨rfl, ⟨rfl, rfl⟩, rfl⟩
 have rb : ∀ s : zK, Zt s = true → 0 ≤ zf s ∧ zf s ≤ 9223372036854775807 := fun s h => by have := (YU h).2.2.2; omega
 have F := nf a
 rw [em]
 simp only [e47, ne_eq]
 have hpos : (!(a == [])) = true → 0 < a.length := fun h => by
  match a, h with
  | c :: r, _ => simp
 refine ⟨fun h => ⟨Int.le_refl _, by have := hpos h; omega⟩, zR.2 ⟨fun c => ?_, fun c => ?_⟩⟩
 ·have hown : zt a = a.drop 1 := by unfold zt; rw [c]; rfl
  have hl1 := (tp c).2
  have hlt : zA ((a.drop 1).length : Int) (a.length : Int) = zE a := by rw [c, zl, List.length_drop]; omega
  rw [hown] at F
  refine ⟨⟨by omega, by omega⟩, by rw [List.length_drop]; omega, ?_⟩
  generalize ho : a.drop 1 = o at *
  have hlo : o.length ≤ a.length := by rw [← ho, List.length_drop]; omega
  have hgt : (o.length : Int) < (a.length : Int) ↔ zE a = true := by rw [← hlt, zl]
  rw [hlt]
  refine zR.2 ⟨fun k => ?_, fun k => bad (F.f0 k)⟩
  refine vB (by cases zE a <;> rfl) ?_
  have hb1 := rb _ k
  refine zR.2 ⟨fun k2 => bad (F.f5 k (by simpa using k2)), fun k2 => ⟨zR.2 ⟨fun k3 => ?_, fun k3 => ?_⟩, fun z hz => ?_⟩⟩
  ·have k4 : zJ o ≠ [] := by simpa using k3
   have k5 : 0 < (zJ o).length := Nat.pos_of_ne_zero fun e => k4 (List.eq_nil_of_length_eq_zero e)
   have k6 : (zJ o).length ≤ o.length := by
    obtain ⟨_, _, h3, _⟩ := YU k
    have := congrArg List.length h3
    rw [List.length_append] at this
    omega
   refine ⟨⟨by omega, by omega⟩, fun hne => bad (F.f3 k k4 hne), fun he => ⟨⟨by omega, by omega⟩, by rw [List.length_drop]; omega, zR.2 ⟨fun k7 => ?_, fun k7 => ?_⟩⟩⟩
   ·obtain ⟨i1, i2, i3⟩ := F.f7 k k4 he k7
    refine ⟨fun _ => hb1, fun _ => rb _ k7, zR.2 ⟨fun k8 => bad (Bool.eq_false_iff.2 fun hb => ?_), fun k8 => ?_⟩⟩
    ·obtain ⟨j1, j2, j3, j4⟩ := i1.1 hb
     rw [j2, j4, show zA (zf ((zJ o).drop 1)) 2 = false from Bool.eq_false_iff.2 fun e => by have := (zl _ _).1 e; omega] at k8
     cases k8
    ·have hb : zZ a = true := i1.2 (by
      rw [Bool.or_eq_false_iff, Bool.or_eq_false_iff] at k8
      obtain ⟨⟨q1, q2⟩, q3⟩ := k8
      refine ⟨by simpa using k2, by simpa using q1, ?_, by simpa using q3⟩
      refine Decidable.byContradiction fun hn => ?_
      rw [(zl _ _).2 (by omega)] at q2
      cases q2)
     exact ⟨_, ⟨hb, (i3 hb).symm, i2⟩, rfl⟩
   ·exact ⟨fun h => by simp at h, fun h => by simp at h, bad (F.f6 k k4 he k7)⟩
  ·have k4 : zJ o = [] := by simpa using k3
   obtain ⟨i1, i2, i3⟩ := F.f2 k k4
   have k2' : (zE a && zf o == 0) = false := k2
   have hb : zZ a = true := by rw [i1, k2']; rfl
   exact ⟨1, ⟨hb, by rw [i3]; rfl, i2⟩, rfl⟩
  ·obtain ⟨z1, z2, z3⟩ := hz
   have fr := F.fr
   rw [← z3] at fr
   refine ⟨fun hh => ⟨⟨by omega, by omega⟩, rfl, ⟨?_, ?_⟩, z1.symm⟩, fun hh => ⟨rfl, ⟨?_, ?_⟩, z1.symm⟩⟩
   ·rw [z1, fr, hgt.1 hh]; rfl
   ·rw [z1]; exact z2
   ·have : zE a = false := Bool.eq_false_iff.2 fun e => by have := hgt.2 e; omega
    rw [z1, fr, this]; rfl
   ·rw [z1]; exact z2
 ·have hown : zt a = a := by unfold zt; rw [c]; rfl
  have hlt : zA (a.length : Int) (a.length : Int) = zE a := by rw [c, Bool.eq_false_iff, Ne, zl]; omega
  rw [hown] at F
  have hlo : a.length ≤ a.length := Nat.le_refl _
  have hgt : (a.length : Int) < (a.length : Int) ↔ zE a = true := by rw [← hlt, zl]
  refine ⟨by omega, ?_⟩
  rw [hlt]
  refine zR.2 ⟨fun k => ?_, fun k => bad (F.f0 k)⟩
  refine vB (by cases zE a <;> rfl) ?_
  have hb1 := rb _ k
  refine zR.2 ⟨fun k2 => bad (F.f5 k (by simpa using k2)), fun k2 => ⟨zR.2 ⟨fun k3 => ?_, fun k3 => ?_⟩, fun z hz => ?_⟩⟩
  ·have k4 : zJ a ≠ [] := by simpa using k3
   have k5 : 0 < (zJ a).length := Nat.pos_of_ne_zero fun e => k4 (List.eq_nil_of_length_eq_zero e)
   have k6 : (zJ a).length ≤ a.length := by
    obtain ⟨_, _, h3, _⟩ := YU k
    have := congrArg List.length h3
    rw [List.length_append] at this
    omega
   refine ⟨⟨by omega, by omega⟩, fun hne => bad (F.f3 k k4 hne), fun he => ⟨⟨by omega, by omega⟩, by rw [List.length_drop]; omega, zR.2 ⟨fun k7 => ?_, fun k7 => ?_⟩⟩⟩
   ·obtain ⟨i1, i2, i3⟩ := F.f7 k k4 he k7
    refine ⟨fun _ => hb1, fun _ => rb _ k7, zR.2 ⟨fun k8 => bad (Bool.eq_false_iff.2 fun hb => ?_), fun k8 => ?_⟩⟩
    ·obtain ⟨j1, j2, j3, j4⟩ := i1.1 hb
     rw [j2, j4, show zA (zf ((zJ a).drop 1)) 2 = false from Bool.eq_false_iff.2 fun e => by have := (zl _ _).1 e; omega] at k8
     cases k8
    ·have hb : zZ a = true := i1.2 (by
      rw [Bool.or_eq_false_iff, Bool.or_eq_false_iff] at k8
      obtain ⟨⟨q1, q2⟩, q3⟩ := k8
      refine ⟨by simpa using k2, by simpa using q1, ?_, by simpa using q3⟩
      refine Decidable.byContradiction fun hn => ?_
      rw [(zl _ _).2 (by omega)] at q2
      cases q2)
     exact ⟨_, ⟨hb, (i3 hb).symm, i2⟩, rfl⟩
   ·exact ⟨fun h => by simp at h, fun h => by simp at h, bad (F.f6 k k4 he k7)⟩
  ·have k4 : zJ a = [] := by simpa using k3
   obtain ⟨i1, i2, i3⟩ := F.f2 k k4
   have k2' : (zE a && zf a == 0) = false := k2
   have hb : zZ a = true := by rw [i1, k2']; rfl
   exact ⟨1, ⟨hb, by rw [i3]; rfl, i2⟩, rfl⟩
  ·obtain ⟨z1, z2, z3⟩ := hz
   have fr := F.fr
   rw [← z3] at fr
   refine ⟨fun hh => ⟨⟨by omega, by omega⟩, rfl, ⟨?_, ?_⟩, z1.symm⟩, fun hh => ⟨rfl, ⟨?_, ?_⟩, z1.symm⟩⟩
   ·rw [z1, fr, hgt.1 hh]; rfl
   ·rw [z1]; exact z2
   ·have : zE a = false := Bool.eq_false_iff.2 fun e => by have := hgt.2 e; omega
    rw [z1, fr, this]; rfl
   ·rw [z1]; exact z2
theorem qU (a : List UInt8) (hl : a.length ≤ 9223372036854775807) : zu Tryz.prog [] 65 [.str a] (.tup 2 (zX [.agg 2 (zX [.i (bif zZ a then zv a else 0), .i (bif zZ a then (zU a : Int) else 0)]), .b (zZ a)])) :=
 zW (T := nu) (an := qN a) mixed Sd (Eq.mp (by kernel_rfl) (qQ a hl))
theorem P5 : zP Tryz.prog [] 65 TS := by
 intro xs ps r h hp
 unfold TS at h
 split at h
 ·skip
  rename_i a
  cases h
  obtain ⟨q0, -⟩ := Zv hp
  exact weaken (ys := [.str a]) ⟨zw _, trivial⟩ (qU a q0)
 ·cases h
end Go.Te
