/- integer: Divide, Gcd. -/
import Derived.Test.YthbpnknhfokadaaGreatDoorThIi
set_option linter.unusedSimpArgs false
set_option linter.unusedVariables false
namespace Go.Te
open Go Go.Sx Go.Proofs Go.Ar
set_option maxRecDepth 100000
set_option maxHeartbeats 4000000
theorem nJ (m t : Bool) {A B q r : Int} (hB : 0 < B) (h : r + B * q = bif !(m == t) then -A else A) (h0 : 0 ≤ r) (h1 : r < B) :
  Int.fdiv (bif m then -A else A) (bif t then -B else B) = q ∧ Int.fmod (bif m then -A else A) (bif t then -B else B) = bif t then -r else r := by
 cases t with
 | false =>
  refine sW ?_ (.inl ⟨hB, h0, h1⟩)
  cases m <;> simpa using h
 | true =>
  refine sW ?_ (.inr ⟨by simp; omega, by simp; omega, by simp; omega⟩)
  cases m <;> simp [Int.neg_mul] at h ⊢ <;> omega
theorem wK (n : Bool) (k : Nat) : yE n (zu 1000000000 k) = bif n then -(k : Int) else k := by unfold yE; rw [xx]
theorem OU {a b : zj} (h : x9 a b ≠ 0) : Yy a b = [] ∧ vL a b = [] := by
 unfold Yy vL
 rw [beq_eq_false_iff_ne.2 h]
 exact ⟨rfl, rfl⟩
theorem Rj {a b : zj} (h : x9 a b = 0) : Yy a b = Lib.itoa (Int.fdiv (zY a) (zY b)) ∧ vL a b = Lib.itoa (Int.fmod (zY a) (zY b)) := by
 unfold Yy vL
 rw [h]
 exact ⟨rfl, rfl⟩
theorem te {a : zj} (h : Zs a = 0) : (zY a).natAbs < 10 ^ 300 := by
 obtain ⟨h1, h2⟩ := yX.1 h
 rw [X2 h1] at h2
 exact (Zx (k := 300) (u := (zY a).natAbs) (by omega)).1 h2
theorem Kp {b : zj} (h : ZZ b = true) (h0 : b ≠ [48]) : zY b ≠ 0 := fun e => h0 (by
 rw [← Yj h, e]
 have : Lib.itoa ((0 : Nat) : Int) = [48] := by rw [Go.Ar.Z5, zA (by omega)]; rfl
 exact this)
theorem rE {a : zj} (h : ZZ a = true) : (bif zL a then -((zY a).natAbs : Int) else ((zY a).natAbs : Int)) = zY a := by
 have := Y3 h
 rw [wK] at this
 exact this
theorem O9 (l : List Int) : Zn (AV.agg 2 (zw [AV.v ((Value.agg #[Value.bool false, Value.slice none 0 0]).cells.getD 0 undef), AV.xl false 1 l.length fun i j => AV.v (Value.int IntKind.i64 (l.getD i 0))])) = (⟨false, l⟩ : Big) := xK false l
theorem qv (l : List Int) : yw Big (AV.agg 2 (zw [AV.v ((Value.agg #[Value.bool false, Value.slice none 0 0]).cells.getD 0 undef), AV.xl false 1 l.length fun i j => AV.v (Value.int IntKind.i64 (l.getD i 0))])) = true := YE false l
def sB : List AV → Option (List zn × AV)
 | [.str a, .str b] => some ([.p (a.length ≤ 4294967280), .p (b.length ≤ 4294967280)], .tup 3 (zw [.str (Yy a b), .str (vL a b), .i (x9 a b)]))
 | _ => none
theorem lj (G : List (Nat × Obj)) (a : List UInt8) (b : List UInt8) (hla : a.length ≤ 4294967280) (hlb : b.length ≤ 4294967280) :
 let q1 := ((True ∧ bA #[] = Yy a b) ∧ bA #[] = vL a b); let q3 := (bif leB (lZ a) (18 : Int) && leB (lZ b) (18 : Int) then zY b else iZ); let q2 := (DB.db (q3 ≠ iZ)); let q5 := (bif leB (lZ a) (18 : Int) && leB (lZ b) (18 : Int) then zY a else iZ); let q4 := (Int.tdiv q5 q3); let q7 := (Int.tmod q5 q3 != iZ); let q6 := (!zr true q7 || zr true q7); let q8 := (Int.tmod q5 q3); let q9 := (Int.tdiv q5 q3 -
 iO); let q10 := (Int.tmod q5 q3 + bif leB (lZ a) (18 : Int) && leB (lZ b) (18 : Int) then zY b else iZ); let q12 := (zu 1000000000 (Int.natAbs (zY a))); let q11 := (xI q12); let q15 := (zu 1000000000 (Int.natAbs (zY b))); let q14 := (xI q15); let q13 := (zD Int q14); let q16 := (zV q11); let q18 := (zV q14); let q17 := (∀ (x : Int), List.Mem x q18 → (0 :
 Int) ≤ x ∧ x < iB); let q19 := (!zr true !zL a == zL b || zr true !zL a == zL b); let q22 := (zv iB q16); let q23 := (zv iB q18); let q21 := (zu 1000000000 (Int.toNat q22 % Int.toNat q23)); let q20 := (lN q21); let q26 := (zu 1000000000 (Int.toNat q22 / Int.toNat q23)); let q25 := (lN q26); let q24 := (AV.xl false 1 q25 fun i j => aI (gD q26 i zU.dflt)); let q27 := (zV q24); let q28 := (zV (AV.xl true 1 1 (Sx.rowAt [fun (x : Nat) => aI iO]))); let
 q29 := (AV.xl false 1 q20 fun i j => aI (gD q21 i zU.dflt)); let q30 := (zV q29); let q32 := (zu 1000000000 (Int.toNat (zv iB q27 + zv iB q28))); let q31 := (AV.agg 2 (zw [AV.v (Value.bool !zL a == zL b), xI q32])); let q35 := (Zn q31); let q34 := (Big.l q35); let q37 := (zu 1000000000 (Int.toNat (zv iB q18 - zv iB q30))); let q36 := (AV.agg 2 (zw [AV.v (Value.bool (zL b)), AV.xl false 1
 (lN q37) fun i j => aI (gD q37 i zU.dflt)])); let q39 := (Zn q36); let q38 := (Big.l q39); let q41 := (yE (Big.neg q35) q34); let q40 := (ZN q41 != iZ); let q42 := (yE (Big.neg q39) q38); let q43 := (3 = lN [AV.junk, AV.junk, AV.junk] ∧ q1 ∧ kI ∧ (4 : Int) = x9 a b); let q44 := (AV.agg 2 (zw [AV.v (Value.bool !zL a == zL b), AV.xl false 1 q25 fun i j => aI (gD q26 i zU.dflt)])); let q46 := (Zn q44); let q45 := (Big.l q46); let q47 := (AV.agg 2 (zw [AV.v (Value.bool (zL b)),
 AV.xl false 1 q20 fun i j => aI (gD q21 i zU.dflt)])); let q49 := (Zn q47); let q48 := (Big.l q49); let q51 := (yE (Big.neg q46) q45); let q50 := (ZN q51 != iZ); let q52 := (yE (Big.neg q49) q48); ZV [AV.str a, AV.str b] → lN a ≤ nM ∧ lN b ≤ nM ∧ zZ (zc a b != iZ) (3 = lN [AV.junk, AV.junk, AV.junk] ∧ q1 ∧ kI ∧ zc a b = x9 a b) (zZ (b == bA #[(48 : UInt8)]) (3 = lN [AV.junk, AV.junk, AV.junk] ∧ q1 ∧ kI ∧
 (12 : Int) = x9 a b) (ZZ a = true ∧ ZZ b = true ∧ (18 : Int) = (18 : Int) ∧ zZ (leB (lZ a) (18 : Int) && leB (lZ b) (18 : Int)) (bF q2 (bF (dK q4) (bF q2 (bF q6 (bF q6 (bF q6 (bF q6 (bF (!Int.tmod q5 q3 != iZ || zr true q7) (zZ (bif Int.tmod q5 q3 != iZ then !zg q8 iZ == zg q3 iZ else false) (bF (dK q9) (bF (dK q10) ((iN ≤ Int.tdiv q5 q3 - iO ∧ Int.tdiv q5 q3 - iO ≤ iX)
 ∧ ((iN ≤ Int.tmod q5 q3 + bif leB (lZ a) (18 : Int) && leB (lZ b) (18 : Int) then zY b else iZ) ∧ q10 ≤ iX) ∧ 3 = lN [AV.junk, AV.junk, AV.junk] ∧ ((True ∧ Lib.itoa q9 = Yy a b) ∧ Lib.itoa q10 = vL a b) ∧ kI ∧ iZ = x9 a b))) ((iN ≤ Int.tdiv q5 q3 ∧ Int.tdiv q5 q3 ≤ iX) ∧ (iN ≤ Int.tmod q5 q3 ∧ Int.tmod q5 q3 ≤ iX) ∧ 3 = lN [AV.junk, AV.junk,
 AV.junk] ∧ ((True ∧ Lib.itoa q4 = Yy a b) ∧ Lib.itoa q8 = vL a b) ∧ kI ∧ iZ = x9 a b)))))))))) (ZZ a = true ∧ lN a ≤ 100000000 ∧ ZZ b = true ∧ lN b ≤ 100000000 ∧ bF (zD Int q11) (bF q13 ((∀ (x : Int), List.Mem x q16 → iZ ≤ x ∧ x < iB) ∧ q17 ∧ zi q16 = zV q11 ∧ zi q18 = zV q14 ∧ lN q18 ≠ 0 ∧ lN q16 ≤ 100000000 ∧ lN q18 ≤ 100000000 ∧ bF q19 (bF q19 (bF (!!zL a == zL b || zr true !zL a == zL b) (zZ
 (bif !zL a == zL b then zg iZ (cI q20) else false) (bF (zD Int q24) ((∀ (x : Int), List.Mem x q27 → iZ ≤ x ∧ x < iB) ∧ (∀ (x : Int), List.Mem x (zV (AV.xl true 1 1 (Sx.rowAt [fun (x : Nat) => aI iO]))) → iZ ≤ x ∧ x < iB) ∧ lN q27 ≤ 1000000000 ∧ lN q28 ≤ 1000000000 ∧ bF q13 (bF (zD Int q29) (q17 ∧ (∀ (x : Int), List.Mem x q30 → iZ ≤ x ∧ x < iB) ∧ lN q18 ≤ 1000000000 ∧ lN q30 ≤ 1000000000 ∧ zv iB q30 ≤ zv
 iB q18 ∧ bF (yw Big q31) ((∀ (x : Int), let q33 := (zu 1000000000 (Int.toNat (zv iB q27 + zv iB (zV (AV.xl true 1 1 (Sx.rowAt [fun (x : Nat) => aI iO])))))); List.Mem x (Big.l (Zn (AV.agg 2 (zw [AV.v (Value.bool !zL a == zL b), xI q33])))) → iZ ≤ x ∧ x < iB) ∧ zi q34 = Big.l q35 ∧ lN q34 ≤ 100000000 ∧ bF (yw Big q36) ((∀ (x : Int), List.Mem x q38 → iZ ≤ x ∧ x <
 iB) ∧ zi q38 = Big.l q39 ∧ lN q38 ≤ 100000000 ∧ bF (!zr false q40 || zr false q40) (bF (!!ZN q41 != iZ || zr false q40) (zZ (bif ZN q41 != iZ then true else ZN q42 != iZ) q43 (3 = lN [AV.junk, AV.junk, AV.junk] ∧ ((True ∧ Yn q41 = Yy a b) ∧ Yn q42 = vL a b) ∧ kI ∧ iZ = x9 a b))))))))) (bF (yw Big q44) ((∀ (x : Int), List.Mem x q45 → iZ ≤ x ∧ x < iB) ∧ zi q45 = Big.l q46 ∧ lN q45 ≤ 100000000 ∧ zZ
 (yw Big q47) ((∀ (x : Int), List.Mem x q48 → iZ ≤ x ∧ x < iB) ∧ zi q48 = Big.l q49 ∧ lN q48 ≤ 100000000 ∧ bF (!zr false q50 || zr false q50) (bF (!!ZN q51 != iZ || zr false q50) (zZ (bif ZN q51 != iZ then true else ZN q52 != iZ) q43 (3 = lN [AV.junk, AV.junk, AV.junk] ∧ ((True ∧ Yn q51 = Yy a b) ∧ Yn q52 = vL a b) ∧ kI ∧ iZ = x9 a b)))) False)))))))))) := by
 delta bF dK bA xI nM cI kI lZ lN gD iZ iO iX iN iB aI
 dsimp only
 intro hb
 have e0 : (zU.dflt : Int) = 0 := rfl
 simp only [↓yZ, ↓Zj, row_one]
 simp only [sS, dS, e0, xb, Y2, xK, YE, X0, xB, wx, x4, Xn, MZ, xx, ME, O9, qv]
 refine ⟨by omega, by omega, fun hE => ?_, fun hE => zX.2 ⟨fun c0 => ?_, fun c0 => ?_⟩⟩
 ·have e : x9 a b = zc a b := by unfold x9; rw [bne_iff_ne.2 hE]; rfl
  obtain ⟨d1, d2⟩ := OU (a := a) (b := b) (by rw [e]; exact hE)
  exact ⟨rfl, ⟨d1.symm, d2.symm⟩, e.symm⟩
 ·have e : x9 a b = 12 := by unfold x9; rw [hE, c0]; rfl
  obtain ⟨d1, d2⟩ := OU (a := a) (b := b) (by rw [e]; decide)
  exact ⟨rfl, ⟨d1.symm, d2.symm⟩, e.symm⟩
 have e : x9 a b = 0 := by unfold x9; rw [hE, c0]; rfl
 obtain ⟨d1, d2⟩ := Rj e
 obtain ⟨hA, hB⟩ := YB hE
 obtain ⟨a1, a2, a3⟩ := yx hA
 obtain ⟨b1, b2, b3⟩ := yx hB
 have a4 := te hA
 have b4 := te hB
 have hv := Kp b3 (beq_eq_false_iff_ne.1 c0)
 rw [d1, d2, e]
 refine ⟨a3, b3, zX.2 ⟨fun c => ?_, fun c => ?_⟩⟩
 ·rw [c]
  rw [Bool.and_eq_true] at c
  have x1 := kq a3 c.1
  have x2 := kq b3 c.2
  simp only [cond_true]
  obtain ⟨f1, f2, f3, f4⟩ := O1 (a := zY a) (b := zY b) hv
  refine ⟨hv, ⟨by omega, by omega⟩, hv, zX.2 ⟨fun cc => ?_, fun cc => ?_⟩⟩
  ·obtain ⟨g1, g2⟩ := f1 cc
   rw [g1, g2]
   exact ⟨⟨by omega, by omega⟩, ⟨by omega, by omega⟩, ⟨by omega, by omega⟩, ⟨by omega, by omega⟩, rfl, ⟨rfl, rfl⟩, trivial⟩
  ·obtain ⟨g1, g2⟩ := f2 cc
   rw [g1, g2]
   exact ⟨⟨by omega, by omega⟩, ⟨by omega, by omega⟩, rfl, ⟨rfl, rfl⟩, trivial⟩
 have wa := rE a3
 have wb := rE b3
 have la := w5 a1
 have lb := w5 b1
 have hB0 : 0 < (zY b).natAbs := by omega
 have hdm := Nat.div_add_mod (zY a).natAbs (zY b).natAbs
 have hml := Nat.mod_lt (zY a).natAbs hB0
 have hdl : (zY a).natAbs / (zY b).natAbs ≤ (zY a).natAbs := Nat.div_le_self _ _
 have lb0 : (zu 1000000000 (zY b).natAbs).length ≠ 0 := fun e => by have := XL (b := 1000000000) (by omega) e; omega
 have lq := Z4 (b := 1000000000) (by omega) hdl
 have lr := Z4 (b := 1000000000) (by omega) (Nat.le_of_lt hml)
 rw [← wa, ← wb]
 rw [show (bif zL a then -((zY a).natAbs : Int) else ((zY a).natAbs : Int)).natAbs = (zY a).natAbs from by rw [wa], show (bif zL b then -((zY b).natAbs : Int) else ((zY b).natAbs : Int)).natAbs = (zY b).natAbs from by rw [wb]]
 clear wa wb e d1 d2 hv a1 b1 c
 generalize hAA : (zY a).natAbs = A at *
 generalize hBB : (zY b).natAbs = B at *
 generalize zL a = m at *
 generalize zL b = t at *
 have hdmI : (B : Int) * ((A / B : Nat) : Int) + ((A % B : Nat) : Int) = (A : Int) := by exact_mod_cast hdm
 generalize A / B = Q at *
 generalize A % B = R at *
 refine ⟨a3, by omega, b3, by omega, (Zg _).1, (Zg _).1, (Zg _).2, (Zg _).2, lb0, by omega, by omega, zX.2 ⟨fun cc => ?_, fun cc => ?_⟩⟩
 ·rw [Bool.and_eq_true, zq] at cc
  have hr0 : R ≠ 0 := fun e => by have := cc.2; rw [e, Za] at this; exact absurd this (by decide)
  have hB2 : 2 * Q ≤ B * Q := Nat.mul_le_mul_right _ (by omega)
  have eq : ((Q : Int) + 1).toNat = Q + 1 := by omega
  have er : ((B : Int) - (R : Int)).toNat = B - R := by omega
  obtain ⟨g1, g2⟩ := nJ m t (A := A) (B := B) (q := -((Q + 1 : Nat) : Int)) (r := ((B - R : Nat) : Int)) (by omega) (by
   rw [cc.1, cond_true, Int.mul_neg, Int.natCast_add, Int.mul_add]; omega) (by omega) (by omega)
  have lq2 := Z4 (b := 1000000000) (m := Q + 1) (n := A) (by omega) (by omega)
  have lr2 := Z4 (b := 1000000000) (m := B - R) (n := B) (by omega) (by omega)
  simp only [eq, er, wK]
  rw [g1, g2, cc.1, cond_true]
  obtain ⟨r1, r2⟩ := Zq (n := -((Q + 1 : Nat) : Int)) (k := 300) (by omega) (by omega) (by rw [Int.natAbs_neg, Int.natAbs_natCast]; omega)
  obtain ⟨r3, r4⟩ := Zq (n := bif t then -((B - R : Nat) : Int) else ((B - R : Nat) : Int)) (k := 300) (by omega) (by omega) (by cases t <;> simp only [cond_true, cond_false, Int.natAbs_neg, Int.natAbs_natCast] <;> omega)
  rw [r1, r2, r3, r4]
  have o1 : ZR 1000000000 [1] := .one (by omega) (by omega)
  refine ⟨(Zg _).1, o1, by omega, by simp, (Zg _).1, (Zg _).1, by omega, by omega, by omega, (Zg _).1, (Zg _).2, by omega, (Zg _).1, (Zg _).2, by omega, ?_⟩
  exact ⟨rfl, ⟨rfl, rfl⟩, trivial⟩
 ·have hq : Int.fdiv (bif m then -(A : Int) else (A : Int)) (bif t then -(B : Int) else (B : Int)) = (bif !(m == t) then -(Q : Int) else (Q : Int)) ∧
    Int.fmod (bif m then -(A : Int) else (A : Int)) (bif t then -(B : Int) else (B : Int)) = bif t then -(R : Int) else (R : Int) := by
   refine nJ m t (by omega) ?_ (by omega) (by omega)
   cases hs : !(m == t) with
   | false => simp only [cond_false]; omega
   | true =>
    rw [hs, Bool.true_and] at cc
    have hr0 : R = 0 := by
     refine Decidable.byContradiction fun hn => ?_
     have h1 : (zu 1000000000 R).length ≠ 0 := fun e => hn (XL (b := 1000000000) (by omega) e)
     rw [(zq _ _).2 (by omega)] at cc
     cases cc
    rw [hr0] at hdmI ⊢
    simp only [cond_true, Int.mul_neg]
    omega
  obtain ⟨g1, g2⟩ := hq
  simp only [wK]
  rw [g1, g2]
  obtain ⟨r1, r2⟩ := Zq (n := bif !(m == t) then -(Q : Int) else (Q : Int)) (k := 300) (by omega) (by omega) (by cases !(m == t) <;> simp only [cond_true, cond_false, Int.natAbs_neg, Int.natAbs_natCast] <;> omega)
  obtain ⟨r3, r4⟩ := Zq (n := bif t then -(R : Int) else (R : Int)) (k := 300) (by omega) (by omega) (by cases t <;> simp only [cond_true, cond_false, Int.natAbs_neg, Int.natAbs_natCast] <;> omega)
  rw [r1, r2, r3, r4]
  exact ⟨(Zg _).1, (Zg _).2, by omega, (Zg _).1, (Zg _).2, by omega, rfl, ⟨rfl, rfl⟩, trivial⟩
theorem Kn {G : List (Nat × Obj)} (hG : zo G) (a : List UInt8) (b : List UInt8) (hla : a.length ≤ 4294967280) (hlb : b.length ≤ 4294967280) : zt Tryz.prog G 115 [.str a, .str b] (.tup 3 (zw [.str (Yy a b), .str (vL a b), .i (x9 a b)])) :=
 zW (T := KH G) (an := .auto) mixed (xg hG) (Eq.mp (by kernel_rfl) (lj G a b hla hlb))
theorem Oy {G : List (Nat × Obj)} (hG : zo G) : zp Tryz.prog G 115 sB := by
 intro xs ps r h hp
 unfold sB at h
 split at h
 ·skip
  rename_i a b
  cases h
  obtain ⟨q0, q1, -⟩ := ZH hp
  exact weaken (ys := [.str a, .str b]) ⟨zS _, zS _, trivial⟩ (Kn hG a b q0 q1)
 ·cases h
structure wq where
 x : Int
 y : Int
structure vN where
 x : Nat
 y : Nat
def Lc (a b : zj) : yW :=
 .two .auto (.two .auto (.two (.two .auto (.two .auto (.two (.two (.one (.loop wq (fun σ z => [(7, .i z.x), (8, .i z.y)]) (fun σ z => []) 0 (fun σ z => Nat.gcd z.x.natAbs z.y.natAbs = yQ a b ∧ z.x.natAbs ≤ 1000000000000000000 ∧ z.y.natAbs ≤ 1000000000000000000) (fun σ z => z.y.natAbs) .auto)) .auto) .auto))) (.two .auto (.two (.one (.loop vN (fun σ z => [(10, ZE (zu 1000000000 z.x)), (11, ZE (zu 1000000000 z.y))]) (fun σ z => []) 0 (fun σ z => Nat.gcd z.x z.y = yQ a b ∧ (zu 1000000000 z.x).length ≤ 100000000 ∧ (zu 1000000000 z.y).length ≤ 100000000) (fun σ z => z.y) .auto)) .auto))))
def SY : List AV → Option (List zn × AV)
 | [.str a, .str b] => some ([.p (a.length ≤ 4294967280), .p (b.length ≤ 4294967280)], .tup 2 (zw [.str (bif zc a b != 0 then [] else Lib.itoa (yQ a b : Int)), .i (zc a b)]))
 | _ => none
theorem lW (G : List (Nat × Obj)) (a : List UInt8) (b : List UInt8) (hla : a.length ≤ 4294967280) (hlb : b.length ≤ 4294967280) :
 let q2 := (zu 1000000000 (Int.natAbs (zY a))); let q3 := (zu 1000000000 (Int.natAbs (zY b))); ZV [AV.str a, AV.str b] → lN a ≤ nM ∧ lN b ≤ nM ∧ zZ (zc a b != iZ) (j2 ∧ (True ∧ bA #[] = bif zc a b != iZ then [] else Lib.itoa (cI (yQ a b))) ∧ kI ∧ zc a b = zc a b) (ZZ a = true ∧ ZZ b = true ∧ (18 : Int) = (18 : Int) ∧ zZ (leB (lZ a) (18 : Int) && leB (lZ b) (18 : Int)) ((∃ (z : wq),
 ((Nat.gcd (Int.natAbs (wq.x z)) (Int.natAbs (wq.y z)) = yQ a b ∧ Int.natAbs (wq.x z) ≤ 1000000000000000000 ∧ Int.natAbs (wq.y z) ≤ 1000000000000000000) ∧ (kI ∧ (bif leB (lZ a) (18 : Int) && leB (lZ b) (18 : Int) then zY a else iZ) = wq.x z) ∧ kI ∧ (bif leB (lZ a) (18 : Int) && leB (lZ b) (18 : Int) then zY b else iZ) = wq.y z) ∧ True) ∧ ∀ (z : wq), let q1 := (if -wq.x z > wq.x z then -wq.x z else wq.x z); Nat.gcd (Int.natAbs (wq.x z)) (Int.natAbs (wq.y z)) =
 yQ a b ∧ Int.natAbs (wq.x z) ≤ 1000000000000000000 ∧ Int.natAbs (wq.y z) ≤ 1000000000000000000 → zZ (wq.y z != iZ) (bF (DB.db (wq.y z ≠ iZ)) (∃ (z' : wq), (((Nat.gcd (Int.natAbs (wq.x z')) (Int.natAbs (wq.y z')) = yQ a b ∧ Int.natAbs (wq.x z') ≤ 1000000000000000000 ∧ Int.natAbs (wq.y z') ≤ 1000000000000000000) ∧ Int.natAbs (wq.y z') < Int.natAbs (wq.y z)) ∧ (kI ∧ wq.y z = wq.x z') ∧ kI ∧ Int.tmod (wq.x z) (wq.y z) = wq.y z') ∧ True)) (bF (dK (-wq.x z)) (((iN ≤ if -wq.x z
 > wq.x z then -wq.x z else wq.x z) ∧ q1 ≤ iX) ∧ j2 ∧ (True ∧ Lib.itoa q1 = bif zc a b != iZ then [] else Lib.itoa (cI (yQ a b))) ∧ kI ∧ iZ = zc a b))) (ZZ a = true ∧ lN a ≤ 100000000 ∧ ZZ b = true ∧ lN b ≤ 100000000 ∧ (∃ (z : vN), ((Nat.gcd (vN.x z) (vN.y z) = yQ a b ∧ lN (zu 1000000000 (vN.x z)) ≤ 100000000 ∧ lN (zu 1000000000 (vN.y z)) ≤ 100000000) ∧ zE (AV.xl false 1 (lN q2) fun i j => aI (gD q2 i
 zU.dflt)) (xI (zu 1000000000 (vN.x z))) ∧ (false = true → false = true) ∧ 1 = 1 ∧ lN (zu 1000000000 (vN.y z)) = lN q3 ∧ ∀ (i j : Nat), i < lN q3 → j < 1 → kI ∧ gD q3 i zU.dflt = gD (zu 1000000000 (vN.y z)) i zU.dflt) ∧ True) ∧ ∀ (z : vN), let q4 := (lN (zu 1000000000 (vN.y z))); let q6 := (lN (zu 1000000000 (vN.x z))); let q5 := (AV.xl false 1 q6 fun i j => aI (List.getD
 (zu 1000000000 (vN.x z)) i zU.dflt)); let q7 := (AV.xl false 1 q4 fun i j => aI (gD (zu 1000000000 (vN.y z)) i zU.dflt)); let q8 := (zV q5); let q9 := (zV q7); let q10 := (zu 1000000000 (Int.toNat (zv iB q8) % Int.toNat (zv iB q9))); let q11 := (AV.agg 2 (zw [AV.v (Array.getD (Value.cells (Value.agg #[Value.bool false, Value.slice (XD Addr) 0 0])) 0 undef), AV.xl false 1 q6 fun i j => aI (gD (zu 1000000000 (vN.x z)) i zU.dflt)])); let q13 := (Zn q11); let q12 := (Big.l q13);
 let q14 := (yE (Big.neg q13) q12); Nat.gcd (vN.x z) (vN.y z) = yQ a b ∧ lN (zu 1000000000 (vN.x z)) ≤ 100000000 ∧ lN (zu 1000000000 (vN.y z)) ≤ 100000000 → zZ (zg iZ (cI q4)) (bF (zD Int q5) (bF (zD Int q7) ((∀ (x : Int), List.Mem x q8 → iZ ≤ x ∧ x < iB) ∧ (∀ (x : Int), List.Mem x q9 → iZ ≤ x ∧ x < iB) ∧ zi q8 = zV q5 ∧ zi q9 = zV q7 ∧ lN q9 ≠ 0 ∧ lN q8 ≤ 100000000 ∧ lN q9 ≤ 100000000 ∧ ∃ (z' : vN), (((Nat.gcd (vN.x z') (vN.y z') = yQ a b ∧
 lN (zu 1000000000 (vN.x z')) ≤ 100000000 ∧ lN (zu 1000000000 (vN.y z')) ≤ 100000000) ∧ vN.y z' < vN.y z) ∧ zE q7 (xI (zu 1000000000 (vN.x z'))) ∧ (false = true → false = true) ∧ 1 = 1 ∧ lN (zu 1000000000 (vN.y z')) = lN q10 ∧ ∀ (i j : Nat), i < lN q10 → j < 1 → kI ∧ gD q10 i zU.dflt = gD (zu 1000000000 (vN.y z')) i zU.dflt) ∧ True))) (bF (yw Big q11) ((∀ (x : Int),
 List.Mem x q12 → iZ ≤ x ∧ x < iB) ∧ zi q12 = Big.l q13 ∧ lN q12 ≤ 100000000 ∧ j2 ∧ (True ∧ Yn q14 = bif zc a b != iZ then [] else Lib.itoa (cI (yQ a b))) ∧ kI ∧ ZN q14 = zc a b)))) := by
 delta bF dK bA xI nM cI kI j2 lZ lN gD iZ iX iN iB aI
 dsimp only
 intro hb
 have e0 : (zU.dflt : Int) = 0 := rfl
 simp only [↓yZ, ↓Zj, row_one]
 simp only [sS, dS, e0, xb, Y2, xK, YE, X0, xB, wx, x4, Xn, MZ, xx, ME, O9, qv]
 refine ⟨by omega, by omega, fun hE => ⟨rfl, by rw [bne_iff_ne.2 hE]; rfl⟩, fun hE => ?_⟩
 obtain ⟨hA, hB⟩ := YB hE
 obtain ⟨a1, a2, a3⟩ := yx hA
 obtain ⟨b1, b2, b3⟩ := yx hB
 have la := w5 a1
 have lb := w5 b1
 have gl : yQ a b ≤ (zY a).natAbs + (zY b).natAbs := by
  unfold yQ
  by_cases h : (zY a).natAbs = 0
  ·rw [h, Nat.gcd_zero_left]; omega
  ·exact Nat.le_trans (Nat.le_of_dvd (by omega) (Nat.gcd_dvd_left _ _)) (by omega)
 have a4 := te hA
 have b4 := te hB
 have gl3 : yQ a b < 10 ^ 300 := by
  unfold yQ
  by_cases h : (zY a).natAbs = 0
  ·rw [h, Nat.gcd_zero_left]; exact b4
  ·exact Nat.lt_of_le_of_lt (Nat.le_of_dvd (by omega) (Nat.gcd_dvd_left _ _)) a4
 rw [hE]
 simp only [bne_self_eq_false, cond_false]
 refine ⟨a3, b3, zX.2 ⟨fun c => ?_, fun c => ?_⟩⟩
 ·rw [c]
  rw [Bool.and_eq_true] at c
  have x1 := kq a3 c.1
  have x2 := kq b3 c.2
  simp only [cond_true]
  refine ⟨⟨⟨zY a, zY b⟩, ⟨rfl, by simp only; omega, by simp only; omega⟩, rfl, rfl⟩, fun z ⟨z1, z2, z3⟩ => ⟨fun hy => ⟨hy, ⟨z.y, z.x.tmod z.y⟩, ⟨⟨?_, z3, ?_⟩, ?_⟩, rfl, rfl⟩, fun hy => ?_⟩⟩
  ·rw [Int.natAbs_tmod, ← ux (y := z.y.natAbs) (by omega), z1]
  ·rw [Int.natAbs_tmod]
   have : z.x.natAbs % z.y.natAbs ≤ z.x.natAbs := Nat.mod_le _ _
   omega
  ·rw [Int.natAbs_tmod]
   exact Nat.mod_lt _ (by omega)
  ·rw [hy, Int.natAbs_zero, Nat.gcd_zero_right] at z1
   rw [qO, z1]
   rw [z1] at z2
   exact ⟨⟨by omega, by omega⟩, ⟨by omega, by omega⟩, rfl, rfl, trivial⟩
 ·refine ⟨a3, by omega, b3, by omega, ⟨⟨(zY a).natAbs, (zY b).natAbs⟩, ⟨rfl, by simp only; omega, by simp only; omega⟩, zS _, fun h => h, rfl, fun _ _ _ _ => rfl⟩, fun z ⟨z1, z2, z3⟩ => ⟨fun hy => ?_, fun hy => ?_⟩⟩
  ·have hy0 : z.y ≠ 0 := fun e => by rw [e, Za] at hy; exact absurd hy (by decide)
   have hm : z.x % z.y < z.y := Nat.mod_lt _ (by omega)
   have hlen := Z4 (b := 1000000000) (m := z.x % z.y) (n := z.y) (by omega) (by omega)
   exact ⟨(Zg _).1, (Zg _).1, (Zg _).2, (Zg _).2, by omega, z2, z3, ⟨z.y, z.x % z.y⟩, ⟨⟨by rw [← ux hy0]; exact z1, z3, by simp only; omega⟩, hm⟩, zS _, fun h => h, rfl, fun _ _ _ _ => rfl⟩
  ·have hy0 := XL (b := 1000000000) (n := z.y) (by omega) (by omega)
   rw [hy0, Nat.gcd_zero_right] at z1
   rw [wK, cond_false, z1]
   rw [z1] at z2
   obtain ⟨r1, r2⟩ := Zq (n := (yQ a b : Int)) (k := 300) (by omega) (by omega) (by rw [Int.natAbs_natCast]; exact gl3)
   rw [r1, r2]
   exact ⟨(Zg _).1, (Zg _).2, z2, rfl, rfl, rfl⟩
theorem jA {G : List (Nat × Obj)} (hG : zo G) (a : List UInt8) (b : List UInt8) (hla : a.length ≤ 4294967280) (hlb : b.length ≤ 4294967280) : zt Tryz.prog G 96 [.str a, .str b] (.tup 2 (zw [.str (bif zc a b != 0 then [] else Lib.itoa (yQ a b : Int)), .i (zc a b)])) :=
 zW (T := KH G) (an := Lc a b) mixed (xg hG) (Eq.mp (by kernel_rfl) (lW G a b hla hlb))
theorem my {G : List (Nat × Obj)} (hG : zo G) : zp Tryz.prog G 96 SY := by
 intro xs ps r h hp
 unfold SY at h
 split at h
 ·skip
  rename_i a b
  cases h
  obtain ⟨q0, q1, -⟩ := ZH hp
  exact weaken (ys := [.str a, .str b]) ⟨zS _, zS _, trivial⟩ (jA hG a b q0 q1)
 ·cases h
end Go.Te

namespace Go.Te
open Go Go.Sx Go.Proofs Go.Ar
set_option maxRecDepth 100000
set_option maxHeartbeats 4000000
def yz (a : zj) : zj := bif zJ a then zB a else [49]
theorem Yv (n : Int) : Zs (Lib.itoa n) = ZN n := by
 obtain ⟨h1, h2⟩ := zC n
 have h3 := X2 h1
 rw [h2] at h3
 unfold Zs ZN
 rw [h1, h3]
 rfl
theorem mi {a : zj} (h : zh a = 0) : Zs (zO a) = 0 ∧ Zs (yz a) = 0 ∧ zY (zO a) = zM a ∧ zY (yz a) = (zP a : Int) := by
 obtain ⟨h1, h2, h3, _⟩ := ZT.1 h
 have hi : ZZ (zO a) = true := by
  unfold Zp at h1
  rw [Bool.and_eq_true] at h1
  exact h1.1
 refine ⟨yX.2 ⟨hi, h2⟩, ?_, rfl, ?_⟩
 all_goals
  unfold yz
  cases hs : zJ a with
  | false =>
   first
    | (show Zs [49] = 0; exact yX.2 (by decide))
    | (unfold zP; rw [hs]; show zY [49] = ((1 : Nat) : Int); decide)
  | true =>
   unfold Zp at h1
   rw [hs] at h1
   have hd : Z2 (zB a) = true := by
    revert h1
    cases Z2 (zB a) <;> simp
   obtain ⟨i1, i2⟩ := wF hd
   first
    | exact yX.2 ⟨i1, Nat.le_trans (Xa _).1 h3⟩
    | (unfold zP; rw [hs]; exact i2)
theorem K0 (s : zj) : s.length ≤ (zR s).length + 1 := by
 unfold zR
 cases zL s with
 | true => rw [cond_true, List.length_drop]; omega
 | false => rw [cond_false]; omega
theorem Td (g : Nat) : (Lib.itoa (g : Int) == [49]) = Nat.beq g 1 := by
 rw [Go.Ar.Z5, Bool.eq_iff_iff, beq_iff_eq, Nat.beq_eq]
 constructor
 ·intro h
  have := congrArg zd h
  rw [Z7] at this
  exact this
 ·intro h
  rw [h, zA (by decide)]; rfl
theorem Hq {a b : zj} (ha : zh a = 0) (hb : zh b = 0) : YH (fun x1 x2 => x1 * x2) (zO a) (yz b) = ZN (zM a * (zP b : Int)) ∧ yA (fun x1 x2 => x1 * x2) (zO a) (yz b) = Yn (zM a * (zP b : Int)) := by
 obtain ⟨a1, a2, a3, a4⟩ := mi ha
 obtain ⟨b1, b2, b3, b4⟩ := mi hb
 have hE : zc (zO a) (yz b) = 0 := by unfold zc; rw [a1, b2]; rfl
 obtain ⟨e1, e2⟩ := Vq (f := fun x1 x2 => x1 * x2) hE
 rw [a3, b4] at e1 e2
 exact ⟨e2, e1⟩
theorem LW {n m : Int} (hn : ZN n = 0) (hm : ZN m = 0) : ye (Yn n) (Yn m) = xr n m ∧ zc (Yn n) (Yn m) = 0 ∧ (Yn n).length ≤ 4294967280 ∧ (Yn m).length ≤ 4294967280 := by
 have e : ∀ k, ZN k = 0 → Yn k = Lib.itoa k := fun k h => by unfold Yn; rw [h]; rfl
 have l : ∀ k, ZN k = 0 → (Lib.itoa k).length ≤ 4294967280 := fun k h => by
  rw [x6]
  have : ¬ 300 < xC k := fun e => by unfold ZN at h; rw [(ZY _ _).2 e] at h; cases h
  split <;> omega
 rw [e n hn, e m hm]
 have hE : zc (Lib.itoa n) (Lib.itoa m) = 0 := by
  unfold zc
  rw [Yv, hn, Yv, hm]
  rfl
 refine ⟨?_, hE, l n hn, l m hm⟩
 unfold ye
 rw [hE, (zC n).2, (zC m).2]
 rfl
theorem yj {a : zj} (h : z8 a = true) : zh a = 0 ∧ (zM a).natAbs ≤ 99999999 ∧ zP a ≤ 99999999 := by
 obtain ⟨h1, h2, h3, h4⟩ := Xg.1 h
 obtain ⟨g1, g2, g3⟩ := xX.1 h1
 have hr : zh a = 0 := by
  unfold z8 at h
  rw [Bool.and_eq_true, Bool.and_eq_true, beq_iff_eq] at h
  exact h.1.1
 have b := Wg g1 (k := 8) h2
 rw [show 10 ^ 8 = 100000000 from by decide] at b
 refine ⟨hr, by rw [Uh]; omega, ?_⟩
 rw [(TP (a := a)).2]
 cases hs : zJ (zR a) with
 | false => show 1 ≤ 99999999; decide
 | true =>
  have b := Wg (g3 hs).1 (k := 8) h3
  rw [show 10 ^ 8 = 100000000 from by decide] at b
  simp only [cond_true]
  omega
noncomputable def Ho (G : List (Nat × Obj)) : Tb := ((((Wm G).plus 94 qx).plus 55 Vt).plus 95 (YO fun s => .str (zR s))).plus 96 SY
theorem pc {G : List (Nat × Obj)} (hG : zo G) : zz Tryz.prog (Ho G) := zz.plus (zz.plus (zz.plus (zz.plus zQ (zp.mono JZ)) (zp.mono T8)) (zp.mono vX)) (my hG)
def X9 : List AV → Option (List zn × AV)
 | [.str a] => some ([.p (a.length ≤ 9223372036854775807)], .tup 2 (zw [.agg 2 (zw [.str (bif zh a == 0 then zO a else []), .str (bif zh a == 0 then yz a else [])]), .i (zh a)]))
 | _ => none
theorem Nz (G : List (Nat × Obj)) (a : List UInt8) (hl : a.length ≤ 9223372036854775807) :
 let q2 := (True ∧ 2 = 2 ∧ (bA #[] = bif zh a == iZ then zO a else []) ∧ bA #[] = bif zh a == iZ then yz a else []); let q1 := (j2 ∧ q2 ∧ kI ∧ (11 : Int) = zh a); let q4 := (bif Zp a then bif zJ a then zB a else [(49 : UInt8)] else []); let q3 := (j2 ∧ (True ∧ 2 = 2 ∧ ((bif Zp a then zO a else []) = bif zh a == iZ then zO a else []) ∧ q4 = bif zh a == iZ then yz a else []) ∧
 kI ∧ iZ = zh a); let q7 := (lZ (zR (bif Zp a then zO a else []))); let q6 := (zg (300 : Int) q7); let q5 := (!zr false q6 || zr false q6); let q8 := (ByteArray.data (ByteArray.mk #[(49 : UInt8)])); let q9 := (zc (bif Zp a then zO a else []) q4 != iZ); ZV [AV.str a] → lN a ≤ nX ∧ zZ (!Zp a) q1 (lN a ≤ nX ∧ zZ (z8 a) q3 (bF q5 (bF q5 (bF q5 (bF (!!zg (300 : Int) q7 || zr false q6) (zZ (bif zg (300 : Int) q7 then true else zg (300 : Int)
 (lZ q4)) (j2 ∧ q2 ∧ kI ∧ (4 : Int) = zh a) (zZ (q4 == Array.toList q8) q3 (lN (bif Zp a then zO a else []) ≤ nM ∧ lN q4 ≤ nM ∧ bF (!zr false q9 || zr false q9) (bF (!!zc (bif Zp a then zO a else []) q4 != iZ || zr false q9) (zZ (bif zc (bif Zp a then zO a else []) q4 != iZ then true else !(bif zc (bif Zp a then zO a else []) q4 != iZ then [] else Lib.itoa (cI (yQ (bif Zp a then zO a else []) q4))) == Array.toList
 q8) q1 q3)))))))))) := by
 delta bF bA nX nM cI kI j2 lZ lN iZ
 dsimp only
 intro hb
 simp only [sS, dS, xz]
 have hFO := XN a
 have hden : (bif zJ a then zB a else [49]) = yz a := rfl
 obtain ⟨o1, o2, o3, o4, o5, o6, o7⟩ := YJ a
 refine ⟨hl, zX.2 ⟨fun c => ?_, fun c => ?_⟩⟩
 ·have c : Zp a = false := by simpa using c
  rw [c] at hFO
  rw [rY hFO.symm]
  exact ⟨rfl, ⟨rfl, rfl⟩, rfl⟩
 have c : Zp a = true := by simpa using c
 have hFO' : wk a = true := hFO.symm.trans c
 simp only [c, cond_true, hden]
 have fin : zh a = 0 → 2 = [AV.junk, AV.junk].length ∧ ((zO a = bif zh a == 0 then zO a else []) ∧ yz a = bif zh a == 0 then yz a else []) ∧ 0 = zh a := fun h => by rw [h]; exact ⟨rfl, ⟨rfl, rfl⟩, rfl⟩
 have bad : ∀ e : Int, e ≠ 0 → zh a = e → 2 = [AV.junk, AV.junk].length ∧ (([] = bif zh a == 0 then zO a else []) ∧ [] = bif zh a == 0 then yz a else []) ∧ e = zh a := fun e h0 h => by
  rw [h, beq_eq_false_iff_ne.2 h0]; exact ⟨rfl, ⟨rfl, rfl⟩, rfl⟩
 have hlen : (zR (zO a)).length = (zO (zR a)).length := by rw [← (Sv (zO a)).2, o5]
 have hcd := W5 a
 have hdd := Sl a
 refine ⟨hl, zX.2 ⟨fun k => fin (yj k).1, fun k => zX.2 ⟨fun k2 => bad 4 (by decide) (pJ hFO' ?_), fun k2 => zX.2 ⟨fun k3 => ?_, fun k3 => ?_⟩⟩⟩⟩
 ·rw [Bool.or_eq_true, zq, zq, hlen] at k2
  rcases k2 with k2 | k2
  ·exact .inl (by omega)
  ·refine .inr ?_
   rw [← o2]
   unfold yz at k2
   cases hs : zJ a with
   | true => rw [hs, cond_true] at k2; omega
   | false => rw [hs, cond_false] at k2; exact absurd k2 (by decide)
 ·have hs : zJ a = false := by
   cases hs : zJ a with
   | false => rfl
   | true =>
    unfold yz at k3
    rw [hs, cond_true] at k3
    have := (xX.1 hFO').2.2 (by rw [← o3]; exact hs)
    rw [← o2] at this
    exact absurd (eq_of_beq k3) this.2.2
  rw [Bool.or_eq_false_iff, Bool.eq_false_iff, Ne, zq, hlen] at k2
  exact fin (Rw hFO' (by omega) (by rw [← o3]; exact hs))
 ·have hs : zJ a = true := by
   cases hs : zJ a with
   | true => rfl
   | false => unfold yz at k3; rw [hs] at k3; cases k3
  have hdS : yz a = zB a := by unfold yz; rw [hs]; rfl
  rw [hdS] at k2 bad fin ⊢
  rw [Bool.or_eq_false_iff, Bool.eq_false_iff, Bool.eq_false_iff, Ne, Ne, zq, zq, hlen] at k2
  have e2 := UR hFO' ⟨by omega, by rw [← o2]; omega⟩ (by rw [← o3]; exact hs)
  have g := (xX.1 hFO').2.2 (by rw [← o3]; exact hs)
  rw [← o2] at g e2
  obtain ⟨i1, i2⟩ := wF g.1
  have hi : ZZ (zO a) = true := by
   have := c
   unfold Zp at this
   rw [Bool.and_eq_true] at this
   exact this.1
  have hE : zc (zO a) (zB a) = 0 := by
   have l2 := (Xa (zB a)).1
   have q1 : Zs (zO a) = 0 := yX.2 ⟨hi, by rw [o5]; omega⟩
   have q2 : Zs (zB a) = 0 := yX.2 ⟨i1, by omega⟩
   unfold zc
   rw [q1, q2]; rfl
  have hg : yQ (zO a) (zB a) = Nat.gcd (zd (zO (zR a))) (zd (zB a)) := by
   unfold yQ
   rw [i2, Int.natAbs_natCast, ← Uh]
   rfl
  have hge := K0 (zO a)
  rw [hE]
  simp only [bne_self_eq_false, cond_false, Bool.false_or, Td, hg]
  refine ⟨by omega, by omega, zX.2 ⟨fun k4 => bad 11 (by decide) ?_, fun k4 => ?_⟩⟩
  ·rw [e2, show Nat.beq (Nat.gcd (zd (zO (zR a))) (zd (zB a))) 1 = false by rw [Bool.not_eq_true'] at k4; exact k4]; rfl
  ·exact fin (by rw [e2, show Nat.beq (Nat.gcd (zd (zO (zR a))) (zd (zB a))) 1 = true by rw [Bool.not_eq_false'] at k4; exact k4]; rfl)
theorem Lq {G : List (Nat × Obj)} (hG : zo G) (a : List UInt8) (hl : a.length ≤ 9223372036854775807) : zt Tryz.prog G 57 [.str a] (.tup 2 (zw [.agg 2 (zw [.str (bif zh a == 0 then zO a else []), .str (bif zh a == 0 then yz a else [])]), .i (zh a)])) :=
 zW (T := Ho G) (an := .auto) mixed (pc hG) (Eq.mp (by kernel_rfl) (Nz G a hl))
theorem vT {G : List (Nat × Obj)} (hG : zo G) : zp Tryz.prog G 57 X9 := by
 intro xs ps r h hp
 unfold X9 at h
 split at h
 ·skip
  rename_i a
  cases h
  obtain ⟨q0, -⟩ := ZH hp
  exact weaken (ys := [.str a]) ⟨zS _, trivial⟩ (Lq hG a q0)
 ·cases h
theorem Mi (G : List (Nat × Obj)) (a : List UInt8) (hl : a.length ≤ 9223372036854775807) :
 ZV [AV.str a] → lN a ≤ nX ∧ kI ∧ zh a = zh a := by
 delta nX kI lN
 intro hb
 simp only [sS, dS, xz]
 exact hl
theorem jg {G : List (Nat × Obj)} (hG : zo G) (a : List UInt8) (hl : a.length ≤ 9223372036854775807) : zt Tryz.prog G 43 [.str a] (.i (zh a)) :=
 zW (T := (Wm G).plus 57 X9) (an := .auto) mixed (zz.plus zQ (vT hG)) (Eq.mp (by kernel_rfl) (Mi G a hl))
def vM (a b : zj) : Int := bif zh a != 0 then zh a else bif zh b != 0 then zh b else bif ZN (zM a * (zP b : Int)) != 0 then ZN (zM a * (zP b : Int)) else ZN (zM b * (zP a : Int))
def Ru (a b : zj) : Int := bif vM a b == 0 then xr (zM a * (zP b : Int)) (zM b * (zP a : Int)) else 0
noncomputable def JN (G : List (Nat × Obj)) : Tb := (((((Wm G).plus 57 X9).plus 55 Vt).plus 78 WF).plus 59 sI).plus 56 uM
theorem qA {G : List (Nat × Obj)} (hG : zo G) : zz Tryz.prog (JN G) := zz.plus (zz.plus (zz.plus (zz.plus (zz.plus zQ (vT hG)) (zp.mono T8)) (uo hG)) (mM hG)) (zp.mono Qz)
noncomputable def HV (G : List (Nat × Obj)) : Tb := (JN G).body Tryz.prog [(58, .auto)]
theorem Pd {G : List (Nat × Obj)} (hG : zo G) : zz Tryz.prog (HV G) := zz.body mixed (qA hG) _
theorem Mo (G : List (Nat × Obj)) (a : List UInt8) (b : List UInt8) (hla : a.length ≤ 9223372036854775807) (hlb : b.length ≤ 9223372036854775807) :
 let q1 := ((bif z8 a then zM a else iZ) * bif z8 b then (cI (zP b)) else iZ); let q2 := ((bif z8 b then zM b else iZ) * bif z8 a then (cI (zP a)) else iZ); let q4 := (True ∧ kI ∧ iZ = Ru a b); let q5 := (bif zh a == iZ then zO a else []); let q6 := (bif zh b == iZ then yz b else []); let q7 := (YH (fun (x1 x2 : Int) => x1 * x2) q5 q6 != iZ); let q8 := (bA #[]); let q9 := (bif zh b == iZ then zO b else []); let q10 := (bif zh a == (0 :
 Int) then yz a else []); let q11 := (yA (fun (x1 x2 : Int) => x1 * x2) q5 q6); let q12 := (yA (fun (x1 x2 : Int) => x1 * x2) q9 q10); let q3 := (lN a ≤ nX ∧ zZ (zh a != iZ) (j2 ∧ q4 ∧ kI ∧ zh a = vM a b) (lN b ≤ nX ∧ zZ (zh b != iZ) (j2 ∧ q4 ∧ kI ∧ zh b = vM a b) (lN q5 ≤ nM ∧ lN q6 ≤ nM ∧ zZ q7 (zZ q7 (j2 ∧ q4 ∧ kI ∧ YH
 (fun (x1 x2 : Int) => x1 * x2) q5 q6 = vM a b) (0 ≤ nM ∧ 0 ≤ nM ∧ j2 ∧ (True ∧ kI ∧ ye q8 q8 = Ru a b) ∧ kI ∧ zc q8 q8 = vM a b)) (lN q9 ≤ nM ∧ lN q10 ≤ nM ∧ zZ (YH (fun (x1 x2 : Int) => x1 * x2) q9 q10 != iZ) (j2 ∧ q4 ∧ kI ∧ YH (fun (x1 x2 : Int) => x1 * x2) q9 q10 = vM a b) (lN q11 ≤ nM ∧ lN q12 ≤ nM ∧ j2 ∧ (True ∧ kI ∧ ye q11
 q12 = Ru a b) ∧ kI ∧ zc q11 q12 = vM a b))))); ZV [AV.str a, AV.str b] → lN a ≤ nX ∧ zZ (z8 a) (lN b ≤ nX ∧ zZ (z8 b) (bF (dK q1) (bF (dK q2) (j2 ∧ (True ∧ kI ∧ xr q1 q2 = Ru a b) ∧ kI ∧ iZ = vM a b))) q3) q3 := by
 delta bF dK bA nX nM cI kI j2 lN iZ
 dsimp only
 intro hb
 simp only [sS, dS, xz]
 have ncd := W5 a
 have ncb := W5 b
 have dl : ∀ a : zj, zh a = 0 → (yz a).length ≤ 301 := fun a h => by have := (ZT.1 h).2.2.1; unfold yz; cases zJ a <;> simp <;> omega
 have eA : zh a ≠ 0 → 0 = Ru a b ∧ zh a = vM a b := fun h => by
  have e : vM a b = zh a := by unfold vM; rw [bne_iff_ne.2 h]; rfl
  unfold Ru
  rw [e, beq_eq_false_iff_ne.2 h]
  exact ⟨rfl, rfl⟩
 have eB : zh a = 0 → zh b ≠ 0 → 0 = Ru a b ∧ zh b = vM a b := fun h0 h => by
  have e : vM a b = zh b := by unfold vM; rw [h0, bne_iff_ne.2 h]; rfl
  unfold Ru
  rw [e, beq_eq_false_iff_ne.2 h]
  exact ⟨rfl, rfl⟩
 have eC : zh a = 0 → zh b = 0 → ZN (zM a * (zP b : Int)) ≠ 0 → 0 = Ru a b ∧ ZN (zM a * (zP b : Int)) = vM a b := fun h0 h1 h => by
  have e : vM a b = ZN (zM a * (zP b : Int)) := by unfold vM; rw [h0, h1, bne_iff_ne.2 h]; rfl
  unfold Ru
  rw [e, beq_eq_false_iff_ne.2 h]
  exact ⟨rfl, rfl⟩
 have eD : zh a = 0 → zh b = 0 → ZN (zM a * (zP b : Int)) = 0 → vM a b = ZN (zM b * (zP a : Int)) := fun h0 h1 h => by
  unfold vM; rw [h0, h1, h]; rfl
 have big : zh a = 0 → zh b = 0 → _ := fun h0 h1 => And.intro (Hq h0 h1) (Hq h1 h0)
 refine ⟨hla, zX.2 ⟨fun c => ⟨hlb, zX.2 ⟨fun c2 => ?_, fun c2 => ?_⟩⟩, fun c => ?_⟩⟩
 ·obtain ⟨a1, a2, a3⟩ := yj c
  obtain ⟨b1, b2, b3⟩ := yj c2
  rw [c, c2]
  simp only [cond_true]
  have m1 : (zM a * (zP b : Int)).natAbs ≤ 99999999 * 99999999 := by rw [Int.natAbs_mul, Int.natAbs_natCast]; exact Nat.mul_le_mul a2 b3
  have m2 : (zM b * (zP a : Int)).natAbs ≤ 99999999 * 99999999 := by rw [Int.natAbs_mul, Int.natAbs_natCast]; exact Nat.mul_le_mul b2 a3
  obtain ⟨r1, r2⟩ := Zq (n := zM a * (zP b : Int)) (k := 20) (by omega) (by omega) (by omega)
  obtain ⟨r3, r4⟩ := Zq (n := zM b * (zP a : Int)) (k := 20) (by omega) (by omega) (by omega)
  have e := eD a1 b1 r2
  rw [r4] at e
  unfold Ru
  rw [e]
  exact ⟨⟨by omega, by omega⟩, ⟨by omega, by omega⟩, rfl, rfl, rfl⟩
 all_goals
  refine ⟨hla, fun h => ⟨rfl, eA h⟩, fun h0 => ⟨hlb, fun h => ⟨rfl, eB h0 h⟩, fun h1 => ?_⟩⟩
  obtain ⟨⟨p1, p2⟩, p3, p4⟩ := big h0 h1
  have dla := dl a h0
  have dlb := dl b h1
  have nla := (ZT.1 h0).2.1
  have nlb := (ZT.1 h1).2.1
  have ll1 := (Xa (zO a)).2
  have ll2 := (Xa (zO b)).2
  rw [h0, h1]
  simp only [beq_self_eq_true, cond_true, p1, p2, p3, p4]
  refine ⟨by omega, by omega, fun h => ⟨fun _ => ⟨rfl, eC h0 h1 h⟩, fun h2 => absurd h2 h⟩, fun h => ⟨by omega, by omega, fun h2 => ?_, fun h2 => ?_⟩⟩
  ·have e := eD h0 h1 h
   unfold Ru
   rw [e, beq_eq_false_iff_ne.2 h2]
   exact ⟨rfl, rfl, rfl⟩
  ·have e := eD h0 h1 h
   rw [h2] at e
   obtain ⟨q1, q2, q3, q4⟩ := LW h h2
   unfold Ru
   rw [e, q1, q2]
   exact ⟨q3, q4, rfl, rfl, rfl⟩
theorem JP {G : List (Nat × Obj)} (hG : zo G) (a : List UInt8) (b : List UInt8) (hla : a.length ≤ 9223372036854775807) (hlb : b.length ≤ 9223372036854775807) : zt Tryz.prog G 29 [.str a, .str b] (.tup 2 (zw [.i (Ru a b), .i (vM a b)])) :=
 zW (T := HV G) (an := .auto) mixed (Pd hG) (Eq.mp (by kernel_rfl) (Mo G a b hla hlb))
end Go.Te

namespace Go.Te
open Go Go.Sx Go.Proofs Go.Ar
set_option maxRecDepth 100000
set_option maxHeartbeats 4000000
structure Nt where
 n : Int
 d : Int
instance : zU Nt := ⟨2, ⟨0, 0⟩, fun c => zw [.i c.n, .i c.d], fun cs => ⟨AV.int (cs 0), AV.int (cs 1)⟩, fun cs => Yc (cs 0) && Yc (cs 1), fun cs h j hj => by
 simp only [Bool.and_eq_true] at h
 match j, hj with
 | 0, _ => exact ZU (UF h.1)
 | 1, _ => exact ZU (UF h.2)⟩
instance : y9 Nt := ⟨fun _ => rfl, fun _ => rfl⟩
def Y5 (n d : Int) : zj := bif zg d 0 then ZX (-n) (-d).toNat else ZX n d.toNat
theorem NN (n : Int) {d : Int} (hd : 0 < d) : wJ (if -n > n then -n else n) d = (Nat.gcd n.natAbs d.toNat : Int) := by
 have e : (if -n > n then -n else n) = (n.natAbs : Int) := by split <;> omega
 unfold wJ
 rw [e, (Zy _ _).2 (show (0 : Int) ≤ (n.natAbs : Int) by omega), (Zy _ _).2 (show 0 ≤ d by omega), Int.toNat_natCast]
 rfl
theorem QE (n : Int) {d : Int} (hd : 0 < d) : (0 : Int) < (Nat.gcd n.natAbs d.toNat : Int) ∧ n.tdiv (Nat.gcd n.natAbs d.toNat : Int) = n / (Nat.gcd n.natAbs d.toNat : Int) ∧ d.tdiv (Nat.gcd n.natAbs d.toNat : Int) = ((d.toNat / Nat.gcd n.natAbs d.toNat : Nat) : Int) ∧ (n / (Nat.gcd n.natAbs d.toNat : Int)).natAbs ≤ n.natAbs ∧ 0 < d.toNat / Nat.gcd n.natAbs d.toNat ∧ d.toNat / Nat.gcd n.natAbs d.toNat ≤ d.toNat := by
 have hg : 0 < Nat.gcd n.natAbs d.toNat := Nat.gcd_pos_of_pos_right _ (by omega)
 have hdv := Nat.gcd_dvd_right n.natAbs d.toNat
 have hnv : ((Nat.gcd n.natAbs d.toNat : Nat) : Int) ∣ n := Int.ofNat_dvd_left.2 (Nat.gcd_dvd_left _ _)
 generalize Nat.gcd n.natAbs d.toNat = g at *
 have e1 : n.tdiv (g : Int) = n / (g : Int) := Int.tdiv_eq_ediv_of_dvd hnv
 refine ⟨by omega, e1, ?_, ?_, Nat.div_pos (Nat.le_of_dvd (by omega) hdv) hg, Nat.div_le_self _ _⟩
 ·rw [Int.tdiv_eq_ediv_of_nonneg (by omega), Int.natCast_ediv]
  congr 1
  omega
 ·rw [← e1]; exact Int.natAbs_tdiv_le_natAbs n g
theorem rO (n : Int) (d : Nat) : (d / Nat.gcd n.natAbs d = 1 → Lib.itoa (n / (Nat.gcd n.natAbs d : Int)) = ZX n d) ∧ (d / Nat.gcd n.natAbs d ≠ 1 → Lib.itoa (n / (Nat.gcd n.natAbs d : Int)) ++ [47] ++ Lib.itoa ((d / Nat.gcd n.natAbs d : Nat) : Int) = ZX n d) := by
 unfold ZX YP
 refine ⟨fun h => ?_, fun h => ?_⟩
 ·rw [h]
  exact (List.append_nil _).symm
 ·rw [show Nat.beq (d / Nat.gcd n.natAbs d) 1 = false from Bool.eq_false_iff.2 fun e => h (Nat.eq_of_beq_eq_true e), Go.Ar.Z5]
  simp
theorem QM {n : Int} (h : n.natAbs < 10 ^ 20) : (Lib.itoa n).length ≤ 21 := by
 rw [x6]
 have : xC n ≤ 20 := xR (by omega) h
 split <;> omega
def T2 : List AV → Option (List zn × AV)
 | [.agg 2 p_x] => some ([.b (Yc (p_x 0) && Yc (p_x 1)), .p ((⟨AV.int (p_x 0), AV.int (p_x 1)⟩ : Nt).d ≠ 0), .p (-1000000000000000000 ≤ (⟨AV.int (p_x 0), AV.int (p_x 1)⟩ : Nt).d ∧ (⟨AV.int (p_x 0), AV.int (p_x 1)⟩ : Nt).d ≤ 1000000000000000000), .p (-1000000000000000000 ≤ (⟨AV.int (p_x 0), AV.int (p_x 1)⟩ : Nt).n ∧ (⟨AV.int (p_x 0), AV.int (p_x 1)⟩ : Nt).n ≤ 1000000000000000000)], .str (Y5 (⟨AV.int (p_x 0), AV.int (p_x 1)⟩ : Nt).n (⟨AV.int (p_x 0), AV.int (p_x 1)⟩ : Nt).d))
 | _ => none
theorem lB (G : List (Nat × Obj)) (x : Nt) (h0 : x.d ≠ 0) (h1 : -1000000000000000000 ≤ x.d ∧ x.d ≤ 1000000000000000000) (h2 : -1000000000000000000 ≤ x.n ∧ x.n ≤ 1000000000000000000) :
 let q1 := (if - -Nt.n x > -Nt.n x then - -Nt.n x else -Nt.n x); let q2 := (DB.db (wJ q1 (-Nt.d x) ≠ iZ)); let q4 := (wJ q1 (-Nt.d x)); let q3 := (Int.tdiv (-Nt.n x) q4); let q5 := (Int.tdiv (-Nt.d x) q4); let q6 := (iN ≤ Int.tdiv (-Nt.n x) q4 ∧ Int.tdiv (-Nt.n x) q4 ≤ iX); let q7 := (ByteArray.data (ByteArray.mk #[(47 : UInt8)])); let q8 := (if -Nt.n x > Nt.n x then -Nt.n x else Nt.n x); let q9 := (DB.db (wJ q8 (Nt.d x) ≠ iZ)); let q11 := (wJ q8 (Nt.d x)); let q10 := (Int.tdiv (Nt.n x) q11); let q12 := (Int.tdiv (Nt.d x)
 q11); let q13 := (iN ≤ Int.tdiv (Nt.n x) q11 ∧ Int.tdiv (Nt.n x) q11 ≤ iX); ZV [AV.agg 2 (zU.enc x)] → zZ (zg (Nt.d x) iZ) (bF (dK (-Nt.n x)) (bF (dK (-Nt.d x)) (bF (dK (- -Nt.n x)) (((iZ ≤ if - -Nt.n x > -Nt.n x then - -Nt.n x else -Nt.n x) ∧ q1 ≤ iX) ∧ (iZ ≤ -Nt.d x ∧ -Nt.d x ≤ iX) ∧ bF q2 (bF (dK q3) (bF q2 (bF (dK q5) (zZ (Int.tdiv (-Nt.d x) q4 == iO) (q6
 ∧ Lib.itoa q3 = Y5 (Nt.n x) (Nt.d x)) (q6 ∧ bF (DB.db (lN (Lib.itoa q3) + 1 ≤ nX)) ((iN ≤ Int.tdiv (-Nt.d x) q4 ∧ Int.tdiv (-Nt.d x) q4 ≤ iX) ∧ bF (DB.db (lN (Lib.itoa q3 ++ Array.toList q7) + lN (Lib.itoa q5) ≤ nX)) (Lib.itoa q3 ++ Array.toList q7 ++ Lib.itoa q5 = Y5 (Nt.n x) (Nt.d x)))))))))))) (bF (dK (-Nt.n x)) (((iZ ≤ if -Nt.n x > Nt.n x then -Nt.n x else Nt.n x) ∧ q8 ≤ (9223372036854775807 :
 Int)) ∧ (iZ ≤ Nt.d x ∧ Nt.d x ≤ iX) ∧ bF q9 (bF (dK q10) (bF q9 (bF (dK q12) (zZ (Int.tdiv (Nt.d x) q11 == iO) (q13 ∧ Lib.itoa q10 = Y5 (Nt.n x) (Nt.d x)) (q13 ∧ bF (DB.db (lN (Lib.itoa q10) + 1 ≤ nX)) ((iN ≤ Int.tdiv (Nt.d x) q11 ∧ Int.tdiv (Nt.d x) q11 ≤ iX) ∧ bF (DB.db (lN (Lib.itoa q10 ++ Array.toList q7) + lN (Lib.itoa q12) ≤ nX)) (Lib.itoa q10 ++ Array.toList q7 ++ Lib.itoa q12 = Y5
 (Nt.n x) (Nt.d x)))))))))) := by
 delta bF dK nX lN iZ iO iX iN
 dsimp only
 intro hb
 simp only [sS, dS]
 have key : ∀ n d : Int, 0 < d → d ≤ 1000000000000000000 → -1000000000000000000 ≤ n ∧ n ≤ 1000000000000000000 → _ := fun n d hd hd1 hn => And.intro (NN n hd) (And.intro (QE n hd) (rO n d.toNat))
 refine ⟨fun hd => ?_, fun hd => ?_⟩
 ·obtain ⟨k1, ⟨k2, k3, k4, k5, k6, k7⟩, k8, k9⟩ := key (-x.n) (-x.d) (by omega) (by omega) ⟨by omega, by omega⟩
  have hs : Y5 x.n x.d = ZX (-x.n) (-x.d).toNat := by unfold Y5; rw [(zq _ _).2 hd]; rfl
  rw [k1, k3, k4, hs]
  generalize ZX (-x.n) (-x.d).toNat = R at *
  generalize Nat.gcd (-x.n).natAbs (-x.d).toNat = g at *
  generalize (-x.n) / (g : Int) = q at *
  generalize (-x.d).toNat / g = e at *
  have l1 := QM (n := q) (by omega)
  have l2 := QM (n := (e : Int)) (by omega)
  refine ⟨⟨by omega, by omega⟩, ⟨by omega, by omega⟩, ⟨by omega, by omega⟩, ⟨by split <;> omega, by split <;> omega⟩, ⟨by omega, by omega⟩, by omega, ⟨by omega, by omega⟩, by omega, ⟨by omega, by omega⟩, fun h => ⟨⟨by omega, by omega⟩, k8 (by omega)⟩, fun h => ⟨⟨by omega, by omega⟩, by omega, ⟨by omega, by omega⟩, by rw [List.length_append, List.length_singleton]; omega, k9 (by omega)⟩⟩
 ·obtain ⟨k1, ⟨k2, k3, k4, k5, k6, k7⟩, k8, k9⟩ := key x.n x.d (by omega) (by omega) h2
  have hs : Y5 x.n x.d = ZX x.n x.d.toNat := by unfold Y5; rw [show zg x.d 0 = false from Bool.eq_false_iff.2 fun e => by have := (zq _ _).1 e; omega]; rfl
  rw [k1, k3, k4, hs]
  generalize ZX x.n x.d.toNat = R at *
  generalize Nat.gcd x.n.natAbs x.d.toNat = g at *
  generalize x.n / (g : Int) = q at *
  generalize hD : x.d.toNat / g = e at *
  have l1 := QM (n := q) (by omega)
  have l2 := QM (n := (e : Int)) (by omega)
  refine ⟨⟨by omega, by omega⟩, ⟨by split <;> omega, by split <;> omega⟩, ⟨by omega, by omega⟩, by omega, ⟨by omega, by omega⟩, by omega, ⟨by omega, by omega⟩, fun h => ⟨⟨by omega, by omega⟩, k8 (by omega)⟩, fun h => ⟨⟨by omega, by omega⟩, by omega, ⟨by omega, by omega⟩, by rw [List.length_append, List.length_singleton]; omega, k9 (by omega)⟩⟩
theorem K8 {G : List (Nat × Obj)} (hG : zo G) (x : Nt) (h0 : x.d ≠ 0) (h1 : -1000000000000000000 ≤ x.d ∧ x.d ≤ 1000000000000000000) (h2 : -1000000000000000000 ≤ x.n ∧ x.n ≤ 1000000000000000000) : zt Tryz.prog G 101 [Yh x] (.str (Y5 x.n x.d)) :=
 zW (T := (oJ G).plus 92 sK) (an := .auto) mixed (zz.plus (y8 hG) (zp.mono OG)) (Eq.mp (by kernel_rfl) (lB G x h0 h1 h2))
theorem Nb {G : List (Nat × Obj)} (hG : zo G) : zp Tryz.prog G 101 T2 := by
 intro xs ps r h hp
 unfold T2 at h
 split at h
 ·skip
  rename_i p_x
  cases h
  obtain ⟨q0, q1, q2, q3, -⟩ := ZH hp
  exact weaken (ys := [Yh (⟨AV.int (p_x 0), AV.int (p_x 1)⟩ : Nt)]) ⟨Zu (x := .agg 2 p_x) (α := Nt) q0, trivial⟩ (K8 hG (⟨AV.int (p_x 0), AV.int (p_x 1)⟩ : Nt) q1 q2 q3)
 ·cases h
def yL (s : zj) : zj := bif s == [48] then s else bif zL s then zR s else 45 :: s
def qh : List AV → Option (List zn × AV)
 | [.str s] => some ([.p (s.length ≤ 4294967280)], .str (yL s))
 | _ => none
theorem mF (s : List UInt8) (hl : s.length ≤ 4294967280) :
 ZV [AV.str s] → zZ (s == bA #[(48 : UInt8)]) (s = yL s) (zZ (zL s) (zR s = yL s) (bF (DB.db (1 + lN s ≤ nX)) (bA #[(45 : UInt8)] ++ s = yL s))) := by
 delta bF bA nX lN
 intro hb
 simp only [sS, dS]
 unfold yL
 refine zX.2 ⟨fun c => by rw [c]; rfl, fun c => zX.2 ⟨fun c2 => by rw [c, c2]; rfl, fun c2 => ⟨by omega, by rw [c, c2]; rfl⟩⟩⟩
theorem kG (s : List UInt8) (hl : s.length ≤ 4294967280) : zt Tryz.prog [] 114 [.str s] (.str (yL s)) :=
 zW (T := T0.plus 140 (YO fun s => .tup 2 (zw [.str (zR s), .b (zL s)]))) (an := .auto) mixed (zz.plus zQ qc) (Eq.mp (by kernel_rfl) (mF s hl))
theorem j7 : zp Tryz.prog [] 114 qh := by
 intro xs ps r h hp
 unfold qh at h
 split at h
 ·skip
  rename_i s
  cases h
  obtain ⟨q0, -⟩ := ZH hp
  exact weaken (ys := [.str s]) ⟨zS _, trivial⟩ (kG s q0)
 ·cases h
theorem rm {s : zj} (h : Zs s = 0) : Zs (yL s) = 0 ∧ zY (yL s) = -zY s ∧ (yL s).length ≤ 302 := by
 obtain ⟨h1, h2⟩ := yX.1 h
 have e : yL s = Lib.itoa (-zY s) := by
  unfold yL
  by_cases h0 : s = [48]
  ·subst h0
   show [48] = Lib.itoa ((0 : Nat) : Int)
   rw [Go.Ar.Z5, zA (by omega)]; rfl
  rw [beq_eq_false_iff_ne.2 h0, cond_false]
  rcases ym h1 with ⟨r, rfl, g1, g2, g3⟩ | ⟨g1, g3⟩
  ·rw [g3, Int.neg_neg, Go.Ar.Z5, Zh g1]
   rfl
  ·have hm : zL s = false := by
    cases hm : zL s with
    | false => rfl
    | true =>
     match s, hm, g1 with
     | c :: r, hm, g1 =>
      have hc : c = 45 := eq_of_beq hm
      subst hc
      exact (wY g1).elim
   have hz : zd s ≠ 0 := fun hz => h0 (Vv g1 hz)
   rw [hm, cond_false, g3, Go.Ar.itoa_neg hz, Zh g1]
 have hl := (Xa (yL s)).2
 have hE : Zs (yL s) = 0 := by
  rw [e, Yv]
  unfold ZN xC
  rw [Int.natAbs_neg]
  rw [X2 h1] at h2
  unfold xC at h2
  rw [show Nat.blt 300 (Lib.nDigits (zY s).natAbs) = false from Bool.eq_false_iff.2 fun e => by have := (ZY _ _).1 e; omega]
  rfl
 exact ⟨hE, by rw [e, (zC _).2], by have := (yX.1 hE).2; omega⟩
theorem Ng {N : Int} {D : Nat} {n d : zj} (hn : n = Lib.itoa (N / (Nat.gcd N.natAbs D : Int))) (hd : d = Lib.itoa ((D / Nat.gcd N.natAbs D : Nat) : Int)) (ln : n.length ≤ 400) (ld : d.length ≤ 400) :
  zZ (d == [49]) (2 = [AV.junk, AV.junk].length ∧ n = ZX N D) (n.length + 1 ≤ 9223372036854775807 ∧ (n ++ [47]).length + d.length ≤ 9223372036854775807 ∧ 2 = [AV.junk, AV.junk].length ∧ n ++ [47] ++ d = ZX N D) := by
 obtain ⟨s1, s2⟩ := rO N D
 have e := Td (D / Nat.gcd N.natAbs D)
 rw [← hd] at e
 refine zX.2 ⟨fun c => ⟨rfl, ?_⟩, fun c => ⟨by omega, by rw [List.length_append, List.length_singleton]; omega, rfl, ?_⟩⟩
 ·rw [c] at e
  rw [hn]; exact s1 (Nat.eq_of_beq_eq_true e.symm)
 ·rw [c] at e
  rw [hn, hd]; exact s2 fun h => by rw [h] at e; cases e
theorem Kq {n d : zj} (hn : Zs n = 0) (hd : Zs d = 0) (hp : 0 < zY d) : zc n d = 0 ∧ (Lib.itoa (yQ n d : Int)).length ≤ 400 ∧ n.length ≤ 400 ∧ d.length ≤ 400 ∧
  zZ (!Lib.itoa (yQ n d : Int) == [49])
   (zZ (Yy d (Lib.itoa (yQ n d : Int)) == [49]) (2 = [AV.junk, AV.junk].length ∧ Yy n (Lib.itoa (yQ n d : Int)) = ZX (zY n) (zY d).toNat)
    (List.length (Yy n (Lib.itoa (yQ n d : Int))) + 1 ≤ 9223372036854775807 ∧ List.length (Yy n (Lib.itoa (yQ n d : Int)) ++ [47]) + List.length (Yy d (Lib.itoa (yQ n d : Int))) ≤ 9223372036854775807 ∧
     2 = [AV.junk, AV.junk].length ∧ Yy n (Lib.itoa (yQ n d : Int)) ++ [47] ++ Yy d (Lib.itoa (yQ n d : Int)) = ZX (zY n) (zY d).toNat))
   (zZ (d == [49]) (2 = [AV.junk, AV.junk].length ∧ n = ZX (zY n) (zY d).toNat) (n.length + 1 ≤ 9223372036854775807 ∧ (n ++ [47]).length + d.length ≤ 9223372036854775807 ∧ 2 = [AV.junk, AV.junk].length ∧ n ++ [47] ++ d = ZX (zY n) (zY d).toNat)) := by
 have hb : zc n d = 0 := by unfold zc; rw [hn, hd]; rfl
 obtain ⟨n1, n2, n3⟩ := yx hn
 obtain ⟨d1, d2, d3⟩ := yx hd
 have n4 := te hn
 have d4 := te hd
 have eD : (zY d).natAbs = (zY d).toNat := by omega
 have hg : yQ n d = Nat.gcd (zY n).natAbs (zY d).toNat := by unfold yQ; rw [eD]
 obtain ⟨g1, g2, g3, g4, g5, g6⟩ := QE (zY n) hp
 rw [← hg] at g1 g2 g3 g4 g5 g6
 have gl : yQ n d ≤ (zY d).natAbs := by rw [hg, eD]; exact Nat.le_of_dvd (by omega) (Nat.gcd_dvd_right _ _)
 have gi : Zs (Lib.itoa (yQ n d : Int)) = 0 := by
  rw [Yv]
  exact (Zq (n := (yQ n d : Int)) (k := 300) (by omega) (by omega) (by rw [Int.natAbs_natCast]; omega)).2
 have lg := (yx gi).2.1
 have hz : (Lib.itoa (yQ n d : Int) == [48]) = false := beq_eq_false_iff_ne.2 fun e => by
  have := (zC (yQ n d : Int)).2
  rw [e] at this
  have h0 : zY [48] = 0 := by decide
  rw [h0] at this
  omega
 have dv : ∀ x : zj, Zs x = 0 → Yy x (Lib.itoa (yQ n d : Int)) = Lib.itoa (zY x / (yQ n d : Int)) := fun x hx => by
  have e : x9 x (Lib.itoa (yQ n d : Int)) = 0 := by
   unfold x9 zc
   rw [hx, gi, hz]; rfl
  rw [(Rj e).1, (zC _).2, Int.fdiv_eq_ediv_of_nonneg _ (by omega)]
 have vd : zY d / (yQ n d : Int) = (((zY d).toNat / yQ n d : Nat) : Int) := by
  rw [Int.natCast_ediv]; congr 1; omega
 have qd := dv d hd
 rw [vd] at qd
 have ql : ∀ x : Int, x.natAbs < 10 ^ 300 → (Lib.itoa x).length ≤ 400 := fun x hx => by
  have := Yv x
  rw [(Zq (n := x) (k := 300) (by omega) (by omega) hx).2] at this
  have := (yx this).2.1
  omega
 refine ⟨hb, by omega, by omega, by omega, zX.2 ⟨fun c => ?_, fun c => ?_⟩⟩
 ·refine Ng (by rw [dv n hn, hg]) (by rw [qd, hg]) ?_ ?_
  ·rw [dv n hn]; exact ql _ (by omega)
  ·rw [qd]; exact ql _ (by rw [Int.natAbs_natCast]; omega)
 ·rw [Bool.not_eq_false', Td] at c
  have c1 := Nat.eq_of_beq_eq_true c
  rw [hg] at c1
  refine Ng ?_ ?_ (by omega) (by omega)
  ·rw [c1]
   show n = Lib.itoa (zY n / 1)
   rw [Int.ediv_one, Yj n3]
  ·rw [c1, Nat.div_one, show (((zY d).toNat : Nat) : Int) = zY d by omega, Yj d3]
def Vs : List AV → Option (List zn × AV)
 | [.str n, .str d] => some ([.p (Zs n = 0), .p (Zs d = 0), .p (zY d ≠ 0)], .tup 2 (zw [.str (Y5 (zY n) (zY d)), .i 0]))
 | _ => none
theorem Mv (G : List (Nat × Obj)) (n : List UInt8) (d : List UInt8) (hn : Zs n = 0) (hd : Zs d = 0) (hp : zY d ≠ 0) :
 let q1 := (True ∧ bA #[] = Y5 (zY n) (zY d)); let q2 := (bif zc (yL n) (yL d) != iZ then [] else Lib.itoa (cI (yQ (yL n) (yL d)))); let q3 := (ByteArray.data (ByteArray.mk #[(49 : UInt8)])); let q4 := (ByteArray.data (ByteArray.mk #[(47 : UInt8)])); let q5 := (bif zc n d != iZ then [] else Lib.itoa (cI (yQ n d))); ZV [AV.str n, AV.str d] → zZ (zL d) (lN n ≤ nM ∧ lN d ≤ nM ∧ lN (yL n) ≤ nM ∧ lN (yL d) ≤ nM ∧ zZ (zc (yL n)
 (yL d) != iZ) (j2 ∧ q1 ∧ kI ∧ zc (yL n) (yL d) = iZ) (zZ (!q2 == Array.toList q3) (lN (yL n) ≤ nM ∧ lN q2 ≤ nM ∧ lN (yL d) ≤ nM ∧ lN q2 ≤ nM ∧ zZ (Yy (yL d) q2 == Array.toList q3) (j2 ∧ (True ∧ Yy (yL n) q2 = Y5 (zY n) (zY d)) ∧ kI ∧ iZ = iZ) (bF (DB.db (lN (Yy (yL n) q2) + 1 ≤ nX)) (bF (DB.db (lN (Yy (yL n) q2 ++
 Array.toList q4) + lN (Yy (yL d) q2) ≤ nX)) (j2 ∧ (True ∧ Yy (yL n) q2 ++ Array.toList q4 ++ Yy (yL d) q2 = Y5 (zY n) (zY d)) ∧ kI ∧ iZ = iZ)))) (zZ (yL d == Array.toList q3) (j2 ∧ (True ∧ yL n = Y5 (zY n) (zY d)) ∧ kI ∧ iZ = iZ) (bF (DB.db (lN (yL n) + 1 ≤ nX)) (bF (DB.db (lN (yL n ++ Array.toList q4) + lN (yL d) ≤ nX)) (2 =
 lN [AV.junk, AV.junk] ∧ (True ∧ yL n ++ Array.toList q4 ++ yL d = Y5 (zY n) (zY d)) ∧ kI ∧ iZ = iZ)))))) (lN n ≤ nM ∧ lN d ≤ nM ∧ zZ (zc n d != iZ) (j2 ∧ q1 ∧ kI ∧ zc n d = iZ) (zZ (!q5 == Array.toList q3) (lN n ≤ nM ∧ lN q5 ≤ nM ∧ lN d ≤ nM ∧ lN q5 ≤ nM ∧ zZ (Yy d q5 == Array.toList q3) (j2 ∧ (True ∧ Yy n q5 = Y5 (zY
 n) (zY d)) ∧ kI ∧ iZ = iZ) (bF (DB.db (lN (Yy n q5) + 1 ≤ nX)) (bF (DB.db (lN (Yy n q5 ++ Array.toList q4) + lN (Yy d q5) ≤ nX)) (j2 ∧ (True ∧ Yy n q5 ++ Array.toList q4 ++ Yy d q5 = Y5 (zY n) (zY d)) ∧ kI ∧ iZ = iZ)))) (zZ (d == Array.toList q3) (j2 ∧ (True ∧ n = Y5 (zY n) (zY d)) ∧ kI ∧ iZ = iZ) (bF (DB.db (lN n + 1 ≤
 nX)) (bF (DB.db (lN (n ++ Array.toList q4) + lN d ≤ nX)) (j2 ∧ (True ∧ n ++ Array.toList q4 ++ d = Y5 (zY n) (zY d)) ∧ kI ∧ iZ = iZ)))))) := by
 delta bF bA nX nM cI kI j2 lN iZ
 dsimp only
 intro hb
 simp only [sS, dS]
 have key : ∀ n d : zj, Zs n = 0 → Zs d = 0 → 0 < zY d → _ := fun n d h1 h2 h3 => Kq h1 h2 h3
 refine zX.2 ⟨fun c => ?_, fun c => ?_⟩
 ·obtain ⟨o1, o2, o3⟩ := rm hn
  obtain ⟨p1, p2, p3⟩ := rm hd
  have hneg : zY d < 0 := by
   match d, c with
   | x :: r, c =>
    have hx : x = 45 := eq_of_beq c
    subst hx
    have : zY (45 :: r) = -(zd r : Int) := rfl
    omega
  have hs : Y5 (zY n) (zY d) = ZX (zY (yL n)) (zY (yL d)).toNat := by unfold Y5; rw [(zq _ _).2 hneg, o2, p2]; rfl
  obtain ⟨k1, k2, k3, k4, k5⟩ := key (yL n) (yL d) o1 p1 (by omega)
  obtain ⟨_, n2, _⟩ := yx hn
  obtain ⟨_, d2, _⟩ := yx hd
  rw [k1, hs]
  refine ⟨by omega, by omega, by omega, by omega, fun h => absurd rfl h, fun _ => ?_⟩
  refine zX.2 ⟨fun c => ⟨by omega, Nat.le_trans k2 (by decide), by omega, Nat.le_trans k2 (by decide), ?_⟩, fun c => ?_⟩
  ·exact (zX.1 k5).1 c
  ·exact (zX.1 k5).2 c
 ·have hpos : 0 < zY d := by
   obtain ⟨d1, _⟩ := yX.1 hd
   rcases ym d1 with ⟨r, rfl, _⟩ | ⟨g1, g3⟩
   ·cases c
   ·omega
  have hs : Y5 (zY n) (zY d) = ZX (zY n) (zY d).toNat := by unfold Y5; rw [show zg (zY d) 0 = false from Bool.eq_false_iff.2 fun e => by have := (zq _ _).1 e; omega]; rfl
  obtain ⟨k1, k2, k3, k4, k5⟩ := key n d hn hd hpos
  rw [k1, hs]
  refine ⟨by omega, by omega, fun h => absurd rfl h, fun _ => ?_⟩
  refine zX.2 ⟨fun c => ⟨by omega, Nat.le_trans k2 (by decide), by omega, Nat.le_trans k2 (by decide), ?_⟩, fun c => ?_⟩
  ·exact (zX.1 k5).1 c
  ·exact (zX.1 k5).2 c
theorem kc {G : List (Nat × Obj)} (hG : zo G) (n : List UInt8) (d : List UInt8) (hn : Zs n = 0) (hd : Zs d = 0) (hp : zY d ≠ 0) : zt Tryz.prog G 79 [.str n, .str d] (.tup 2 (zw [.str (Y5 (zY n) (zY d)), .i 0])) :=
 zW (T := ((((Wm G).plus 44 (YO fun s => .b (zL s))).plus 96 SY).plus 115 sB).plus 114 qh) (an := .auto) mixed (zz.plus (zz.plus (zz.plus (zz.plus zQ (zp.mono Ss)) (my hG)) (Oy hG)) (zp.mono j7)) (Eq.mp (by kernel_rfl) (Mv G n d hn hd hp))
theorem so {G : List (Nat × Obj)} (hG : zo G) : zp Tryz.prog G 79 Vs := by
 intro xs ps r h hp
 unfold Vs at h
 split at h
 ·skip
  rename_i n d
  cases h
  obtain ⟨q0, q1, q2, -⟩ := ZH hp
  exact weaken (ys := [.str n, .str d]) ⟨zS _, zS _, trivial⟩ (kc hG n d q0 q1 q2)
 ·cases h
end Go.Te

namespace Go.Te
open Go Go.Sx Go.Proofs Go.Ar
set_option maxRecDepth 100000
set_option maxHeartbeats 4000000
structure Pt where
 n : zj
 d : zj
instance : zU Pt := ⟨2, ⟨[], []⟩, fun c => zw [.str c.n, .str c.d], fun cs => ⟨AV.bytes (cs 0), AV.bytes (cs 1)⟩, fun cs => Zm (cs 0) && Zm (cs 1), fun cs h j hj => by
 simp only [Bool.and_eq_true] at h
 match j, hj with
 | 0, _ => exact ZU (Xz h.1)
 | 1, _ => exact ZU (Xz h.2)⟩
instance : y9 Pt := ⟨fun _ => rfl, fun _ => rfl⟩
def Kv (k : Nat) : AV → Bool
 | .fn (.func k') 0 _ 0 _ => Nat.beq k' k
 | _ => false
theorem nD {k : Nat} {x : AV} (h : Kv k x = true) : zE x (jU k) := by
 unfold Kv at h
 split at h
 ·obtain rfl := Nat.eq_of_beq_eq_true h
  exact ⟨rfl, rfl, rfl, xe, xe⟩
 ·cases h
def UC (x : Nt) : Prop := (-99999999 ≤ x.n ∧ x.n ≤ 99999999) ∧ (0 < x.d ∧ x.d ≤ 99999999)
theorem YU {a b : Int} (ha : -99999999 ≤ a ∧ a ≤ 99999999) (hb : -99999999 ≤ b ∧ b ≤ 99999999) : -10000000000000000 ≤ a * b ∧ a * b ≤ 10000000000000000 := by
 have h : (a * b).natAbs ≤ 99999999 * 99999999 := by rw [Int.natAbs_mul]; exact Nat.mul_le_mul (by omega) (by omega)
 omega
def mt : List AV → Option (List zn × AV)
 | [.agg 2 p_x, .agg 2 p_y] => some ([.b (Yc (p_x 0) && Yc (p_x 1)), .b (Yc (p_y 0) && Yc (p_y 1)), .p (UC (⟨AV.int (p_x 0), AV.int (p_x 1)⟩ : Nt)), .p (UC (⟨AV.int (p_y 0), AV.int (p_y 1)⟩ : Nt))], Yh (⟨(⟨AV.int (p_x 0), AV.int (p_x 1)⟩ : Nt).n * (⟨AV.int (p_y 0), AV.int (p_y 1)⟩ : Nt).d + (⟨AV.int (p_y 0), AV.int (p_y 1)⟩ : Nt).n * (⟨AV.int (p_x 0), AV.int (p_x 1)⟩ : Nt).d, (⟨AV.int (p_x 0), AV.int (p_x 1)⟩ : Nt).d * (⟨AV.int (p_y 0), AV.int (p_y 1)⟩ : Nt).d⟩ : Nt))
 | _ => none
theorem kH (x : Nt) (y : Nt) (h1 : UC x) (h2 : UC y) :
 ZV [AV.agg 2 (zU.enc x), AV.agg 2 (zU.enc y)] → bF (dK (Nt.n x * Nt.d y)) (bF (dK (Nt.n y * Nt.d x)) (bF (dK (Nt.n x * Nt.d y + Nt.n y * Nt.d x)) (bF (dK (Nt.d x * Nt.d y)) (2 = 2 ∧ (kI ∧ Nt.n x * Nt.d y + Nt.n y * Nt.d x = Nt.n (Nt.mk (Nt.n x * Nt.d y + Nt.n y * Nt.d x) (Nt.d x * Nt.d y))) ∧ kI ∧ Nt.d x * Nt.d y = Nt.d (Nt.mk (Nt.n x * Nt.d y + Nt.n y * Nt.d x) (Nt.d x * Nt.d y)))))) := by
 delta bF dK kI
 intro hb
 simp only [sS, dS]
 unfold UC at h1 h2
 have m1 := YU (a := x.n) (b := y.d) h1.1 ⟨by omega, h2.2.2⟩
 have m2 := YU (a := y.n) (b := x.d) h2.1 ⟨by omega, h1.2.2⟩
 have m3 := YU (a := x.d) (b := y.d) ⟨by omega, h1.2.2⟩ ⟨by omega, h2.2.2⟩
 exact ⟨⟨by omega, by omega⟩, ⟨by omega, by omega⟩, ⟨by omega, by omega⟩, ⟨by omega, by omega⟩⟩
theorem iE (x : Nt) (y : Nt) (h1 : UC x) (h2 : UC y) : zt Tryz.prog [] 61 [Yh x, Yh y] (Yh (⟨x.n * y.d + y.n * x.d, x.d * y.d⟩ : Nt)) :=
 zW (T := T0) (an := .auto) mixed zQ (Eq.mp (by kernel_rfl) (kH x y h1 h2))
theorem Jd : zp Tryz.prog [] 61 mt := by
 intro xs ps r h hp
 unfold mt at h
 split at h
 ·skip
  rename_i p_x p_y
  cases h
  obtain ⟨q0, q1, q2, q3, -⟩ := ZH hp
  exact weaken (ys := [Yh (⟨AV.int (p_x 0), AV.int (p_x 1)⟩ : Nt), Yh (⟨AV.int (p_y 0), AV.int (p_y 1)⟩ : Nt)]) ⟨Zu (x := .agg 2 p_x) (α := Nt) q0, Zu (x := .agg 2 p_y) (α := Nt) q1, trivial⟩ (iE (⟨AV.int (p_x 0), AV.int (p_x 1)⟩ : Nt) (⟨AV.int (p_y 0), AV.int (p_y 1)⟩ : Nt) q2 q3)
 ·cases h
def Ob : List AV → Option (List zn × AV)
 | [.agg 2 p_x, .agg 2 p_y] => some ([.b (Yc (p_x 0) && Yc (p_x 1)), .b (Yc (p_y 0) && Yc (p_y 1)), .p (UC (⟨AV.int (p_x 0), AV.int (p_x 1)⟩ : Nt)), .p (UC (⟨AV.int (p_y 0), AV.int (p_y 1)⟩ : Nt))], Yh (⟨(⟨AV.int (p_x 0), AV.int (p_x 1)⟩ : Nt).n * (⟨AV.int (p_y 0), AV.int (p_y 1)⟩ : Nt).n, (⟨AV.int (p_x 0), AV.int (p_x 1)⟩ : Nt).d * (⟨AV.int (p_y 0), AV.int (p_y 1)⟩ : Nt).d⟩ : Nt))
 | _ => none
theorem jf (x : Nt) (y : Nt) (h1 : UC x) (h2 : UC y) :
 ZV [AV.agg 2 (zU.enc x), AV.agg 2 (zU.enc y)] → bF (dK (Nt.n x * Nt.n y)) (bF (dK (Nt.d x * Nt.d y)) (2 = 2 ∧ (kI ∧ Nt.n x * Nt.n y = Nt.n (Nt.mk (Nt.n x * Nt.n y) (Nt.d x * Nt.d y))) ∧ kI ∧ Nt.d x * Nt.d y = Nt.d (Nt.mk (Nt.n x * Nt.n y) (Nt.d x * Nt.d y)))) := by
 delta bF dK kI
 intro hb
 simp only [sS, dS]
 unfold UC at h1 h2
 have m1 := YU (a := x.n) (b := y.n) h1.1 ⟨by omega, h2.1.2⟩
 have m2 := YU (a := y.n) (b := x.d) h2.1 ⟨by omega, h1.2.2⟩
 have m3 := YU (a := x.d) (b := y.d) ⟨by omega, h1.2.2⟩ ⟨by omega, h2.2.2⟩
 exact ⟨⟨by omega, by omega⟩, ⟨by omega, by omega⟩⟩
theorem JJ (x : Nt) (y : Nt) (h1 : UC x) (h2 : UC y) : zt Tryz.prog [] 76 [Yh x, Yh y] (Yh (⟨x.n * y.n, x.d * y.d⟩ : Nt)) :=
 zW (T := T0) (an := .auto) mixed zQ (Eq.mp (by kernel_rfl) (jf x y h1 h2))
theorem JF : zp Tryz.prog [] 76 Ob := by
 intro xs ps r h hp
 unfold Ob at h
 split at h
 ·skip
  rename_i p_x p_y
  cases h
  obtain ⟨q0, q1, q2, q3, -⟩ := ZH hp
  exact weaken (ys := [Yh (⟨AV.int (p_x 0), AV.int (p_x 1)⟩ : Nt), Yh (⟨AV.int (p_y 0), AV.int (p_y 1)⟩ : Nt)]) ⟨Zu (x := .agg 2 p_x) (α := Nt) q0, Zu (x := .agg 2 p_y) (α := Nt) q1, trivial⟩ (JJ (⟨AV.int (p_x 0), AV.int (p_x 1)⟩ : Nt) (⟨AV.int (p_y 0), AV.int (p_y 1)⟩ : Nt) q2 q3)
 ·cases h
def Vz (f : Int → Int → Int) (x y : Pt) : Int :=
 bif ZN (zY x.n * zY y.d) != 0 then ZN (zY x.n * zY y.d) else bif ZN (zY y.n * zY x.d) != 0 then ZN (zY y.n * zY x.d)
 else bif ZN (f (zY x.n * zY y.d) (zY y.n * zY x.d)) != 0 then ZN (f (zY x.n * zY y.d) (zY y.n * zY x.d)) else ZN (zY x.d * zY y.d)
def RU (f : Int → Int → Int) (x y : Pt) : zj := bif Vz f x y == 0 then Y5 (f (zY x.n * zY y.d) (zY y.n * zY x.d)) (zY x.d * zY y.d) else []
def tX (x : Pt) : Prop := Zs x.n = 0 ∧ Zs x.d = 0 ∧ zY x.d ≠ 0
theorem X4 {f : Int → Int → Int} {a b : zj} (ha : Zs a = 0) (hb : Zs b = 0) : YH f a b = ZN (f (zY a) (zY b)) ∧ yA f a b = Yn (f (zY a) (zY b)) := by
 have hE : zc a b = 0 := by unfold zc; rw [ha, hb]; rfl
 obtain ⟨e1, e2⟩ := Vq (f := f) hE
 exact ⟨e2, e1⟩
theorem we {n : Int} (h : ZN n = 0) : Zs (Yn n) = 0 ∧ zY (Yn n) = n ∧ (Yn n).length ≤ 400 := by
 have e : Yn n = Lib.itoa n := by unfold Yn; rw [h]; rfl
 have hi : Zs (Lib.itoa n) = 0 := by rw [Yv, h]
 rw [e]
 exact ⟨hi, (zC n).2, by have := (yx hi).2.1; omega⟩
theorem KL {f : Int → Int → Int} {x y : Pt} (h1 : tX x) (h2 : tX y) :
 x.n.length ≤ 4294967280 ∧ y.d.length ≤ 4294967280 ∧
  (YH (fun x1 x2 => x1 * x2) x.n y.d ≠ 0 →
   (YH (fun x1 x2 => x1 * x2) x.n y.d ≠ 0 → 2 = [AV.junk, AV.junk].length ∧ [] = RU f x y ∧ YH (fun x1 x2 => x1 * x2) x.n y.d = Vz f x y) ∧
   (YH (fun x1 x2 => x1 * x2) x.n y.d = 0 → 2 = [AV.junk, AV.junk].length ∧ [] = RU f x y ∧ YH f [] [] = Vz f x y)) ∧
  (YH (fun x1 x2 => x1 * x2) x.n y.d = 0 → y.n.length ≤ 4294967280 ∧ x.d.length ≤ 4294967280 ∧
   (YH (fun x1 x2 => x1 * x2) y.n x.d ≠ 0 → 2 = [AV.junk, AV.junk].length ∧ [] = RU f x y ∧ YH (fun x1 x2 => x1 * x2) y.n x.d = Vz f x y) ∧
   (YH (fun x1 x2 => x1 * x2) y.n x.d = 0 → (yA (fun x1 x2 => x1 * x2) x.n y.d).length ≤ 4294967280 ∧ (yA (fun x1 x2 => x1 * x2) y.n x.d).length ≤ 4294967280 ∧
    (YH f (yA (fun x1 x2 => x1 * x2) x.n y.d) (yA (fun x1 x2 => x1 * x2) y.n x.d) ≠ 0 → 2 = [AV.junk, AV.junk].length ∧ [] = RU f x y ∧ YH f (yA (fun x1 x2 => x1 * x2) x.n y.d) (yA (fun x1 x2 => x1 * x2) y.n x.d) = Vz f x y) ∧
    (YH f (yA (fun x1 x2 => x1 * x2) x.n y.d) (yA (fun x1 x2 => x1 * x2) y.n x.d) = 0 → x.d.length ≤ 4294967280 ∧ y.d.length ≤ 4294967280 ∧
     (YH (fun x1 x2 => x1 * x2) x.d y.d ≠ 0 → 2 = [AV.junk, AV.junk].length ∧ [] = RU f x y ∧ YH (fun x1 x2 => x1 * x2) x.d y.d = Vz f x y) ∧
     (YH (fun x1 x2 => x1 * x2) x.d y.d = 0 → Zs (yA f (yA (fun x1 x2 => x1 * x2) x.n y.d) (yA (fun x1 x2 => x1 * x2) y.n x.d)) = 0 ∧ Zs (yA (fun x1 x2 => x1 * x2) x.d y.d) = 0 ∧ zY (yA (fun x1 x2 => x1 * x2) x.d y.d) ≠ 0 ∧
      2 = [AV.junk, AV.junk].length ∧ Y5 (zY (yA f (yA (fun x1 x2 => x1 * x2) x.n y.d) (yA (fun x1 x2 => x1 * x2) y.n x.d))) (zY (yA (fun x1 x2 => x1 * x2) x.d y.d)) = RU f x y ∧ 0 = Vz f x y)))) := by
 obtain ⟨a1, a2, a3⟩ := h1
 obtain ⟨b1, b2, b3⟩ := h2
 have l1 := (yx a1).2.1
 have l2 := (yx a2).2.1
 have l3 := (yx b1).2.1
 have l4 := (yx b2).2.1
 obtain ⟨p1, p2⟩ := X4 (f := fun x1 x2 => x1 * x2) a1 b2
 obtain ⟨p3, p4⟩ := X4 (f := fun x1 x2 => x1 * x2) b1 a2
 obtain ⟨p5, p6⟩ := X4 (f := fun x1 x2 => x1 * x2) a2 b2
 have bad : ∀ e : Int, e ≠ 0 → e = Vz f x y → 2 = [AV.junk, AV.junk].length ∧ [] = RU f x y ∧ e = Vz f x y := fun e h0 h => ⟨rfl, by unfold RU; rw [← h, beq_eq_false_iff_ne.2 h0]; rfl, h⟩
 rw [p1, p2, p3, p4, p5, p6]
 refine ⟨by omega, by omega, fun h => ⟨fun _ => bad _ h ?_, fun h0 => absurd h0 h⟩, fun g1 => ⟨by omega, by omega, fun h => bad _ h ?_, fun g2 => ?_⟩⟩
 ·unfold Vz; rw [bne_iff_ne.2 h]; rfl
 ·unfold Vz; rw [g1, bne_iff_ne.2 h]; rfl
 obtain ⟨r1, r2, r3⟩ := we g1
 obtain ⟨r4, r5, r6⟩ := we g2
 obtain ⟨p7, p8⟩ := X4 (f := f) r1 r4
 rw [r2, r5] at p7 p8
 rw [p7, p8]
 refine ⟨by omega, by omega, fun h => bad _ h ?_, fun g3 => ⟨by omega, by omega, fun h => bad _ h ?_, fun g4 => ?_⟩⟩
 ·unfold Vz; rw [g1, g2, bne_iff_ne.2 h]; rfl
 ·unfold Vz; rw [g1, g2, g3]; rfl
 obtain ⟨s1, s2, s3⟩ := we g3
 obtain ⟨s4, s5, s6⟩ := we g4
 have e : Vz f x y = 0 := by unfold Vz; rw [g1, g2, g3, g4]; rfl
 rw [s2, s5]
 exact ⟨s1, s4, Int.mul_ne_zero a3 b3, rfl, by unfold RU; rw [e]; rfl, e.symm⟩
noncomputable def I2 (G : List (Nat × Obj)) : Tb := (((((Wm G).plus 78 WF).plus 64 uN).plus 118 TJ).plus 79 Vs).body Tryz.prog [(58, .auto)]
theorem Px {G : List (Nat × Obj)} (hG : zo G) : zz Tryz.prog (I2 G) := zz.body mixed (zz.plus (zz.plus (zz.plus (zz.plus zQ (uo hG)) (qb hG)) (o9 hG)) (so hG)) _
def nZ : List AV → Option (List zn × AV)
 | [.agg 2 p_x, .agg 2 p_y, .xq 1 c_cf 0] => some ([.b (Zm (p_x 0) && Zm (p_x 1)), .b (Zm (p_y 0) && Zm (p_y 1)), .b (Kv 64 (c_cf 0)), .p (tX (⟨AV.bytes (p_x 0), AV.bytes (p_x 1)⟩ : Pt)), .p (tX (⟨AV.bytes (p_y 0), AV.bytes (p_y 1)⟩ : Pt))], .tup 2 (zw [.str (RU (· + ·) (⟨AV.bytes (p_x 0), AV.bytes (p_x 1)⟩ : Pt) (⟨AV.bytes (p_y 0), AV.bytes (p_y 1)⟩ : Pt)), .i (Vz (· + ·) (⟨AV.bytes (p_x 0), AV.bytes (p_x 1)⟩ : Pt) (⟨AV.bytes (p_y 0), AV.bytes (p_y 1)⟩ : Pt))]))
 | _ => none
theorem jX (G : List (Nat × Obj)) (x : Pt) (y : Pt) (h1 : tX x) (h2 : tX y) :
 let q1 := (YH (fun (x1 x2 : Int) => x1 * x2) (Pt.n x) (Pt.d y) != iZ); let q2 := (True ∧ bA #[] = RU (fun (x1 x2 : Int) => x1 + x2) x y); let q3 := (bA #[]); let q4 := (yA (fun (x1 x2 : Int) => x1 * x2) (Pt.n x) (Pt.d y)); let q5 := (yA (fun (x1 x2 : Int) => x1 * x2) (Pt.n y) (Pt.d x)); let q6 := (yA (fun (x1 x2 : Int) => x1 + x2) q4 q5); let q7 := (yA (fun (x1 x2 : Int) => x1 * x2) (Pt.d x) (Pt.d y)); ZV [AV.agg 2 (zU.enc x), AV.agg 2 (zU.enc y), AV.xq 1 (fun (x : Nat) => AV.fn (Fn.func (64 :
 FuncId)) 0 (fun (x : Nat) => AV.junk) 0 fun (x : Nat) => AV.junk) 0] → lN (Pt.n x) ≤ nM ∧ lN (Pt.d y) ≤ nM ∧ zZ q1 (zZ q1 (j2 ∧ q2 ∧ kI ∧ YH (fun (x1 x2 : Int) => x1 * x2) (Pt.n x) (Pt.d y) = Vz (fun (x1 x2 : Int) => x1 + x2) x y) (0 ≤ nM ∧ 0 ≤ nM ∧ j2 ∧ q2 ∧ kI ∧ YH (fun (x1 x2 : Int) => x1 + x2) q3 q3 = Vz (fun (x1 x2 : Int) => x1 + x2) x y)) (lN (Pt.n y) ≤ nM ∧ lN (Pt.d x) ≤ nM ∧ zZ (YH (fun (x1 x2
 : Int) => x1 * x2) (Pt.n y) (Pt.d x) != iZ) (j2 ∧ q2 ∧ kI ∧ YH (fun (x1 x2 : Int) => x1 * x2) (Pt.n y) (Pt.d x) = Vz (fun (x1 x2 : Int) => x1 + x2) x y) (lN q4 ≤ nM ∧ lN q5 ≤ nM ∧ zZ (YH (fun (x1 x2 : Int) => x1 + x2) q4 q5 != iZ) (j2 ∧ q2 ∧ kI ∧ YH (fun (x1 x2 : Int) => x1 + x2) q4 q5 = Vz (fun (x1 x2 : Int) => x1 + x2) x y) (lN (Pt.d x) ≤ nM ∧ lN (Pt.d y) ≤ nM ∧ zZ (YH (fun (x1 x2 : Int) => x1 * x2)
 (Pt.d x) (Pt.d y) != iZ) (j2 ∧ q2 ∧ kI ∧ YH (fun (x1 x2 : Int) => x1 * x2) (Pt.d x) (Pt.d y) = Vz (fun (x1 x2 : Int) => x1 + x2) x y) (Zs q6 = iZ ∧ Zs q7 = iZ ∧ zY q7 ≠ iZ ∧ j2 ∧ (True ∧ Y5 (zY q6) (zY q7) = RU (fun (x1 x2 : Int) => x1 + x2) x y) ∧ kI ∧ iZ = Vz (fun (x1 x2 : Int) => x1 + x2) x y)))) := by
 delta bA nM kI j2 lN iZ
 dsimp only
 intro hb
 simp only [sS, dS]
 exact KL h1 h2
theorem JC {G : List (Nat × Obj)} (hG : zo G) (x : Pt) (y : Pt) (h1 : tX x) (h2 : tX y) : zt Tryz.prog G 102 [Yh x, Yh y, .xq 1 (fun _ => jU 64) 0] (.tup 2 (zw [.str (RU (· + ·) x y), .i (Vz (· + ·) x y)])) :=
 zW (T := I2 G) (an := .auto) mixed (Px hG) (Eq.mp (by kernel_rfl) (jX G x y h1 h2))
theorem J6 {G : List (Nat × Obj)} (hG : zo G) : zp Tryz.prog G 102 nZ := by
 intro xs ps r h hp
 unfold nZ at h
 split at h
 ·skip
  rename_i p_x p_y c_cf
  cases h
  obtain ⟨q0, q1, q2, q3, q4, -⟩ := ZH hp
  exact weaken (ys := [Yh (⟨AV.bytes (p_x 0), AV.bytes (p_x 1)⟩ : Pt), Yh (⟨AV.bytes (p_y 0), AV.bytes (p_y 1)⟩ : Pt), .xq 1 (fun _ => jU 64) 0]) ⟨Zu (x := .agg 2 p_x) (α := Pt) q0, Zu (x := .agg 2 p_y) (α := Pt) q1, ⟨rfl, rfl, nD q2⟩, trivial⟩ (JC hG (⟨AV.bytes (p_x 0), AV.bytes (p_x 1)⟩ : Pt) (⟨AV.bytes (p_y 0), AV.bytes (p_y 1)⟩ : Pt) q3 q4)
 ·cases h
def Rs (x y : Pt) : Int := bif ZN (zY x.n * zY y.n) != 0 then ZN (zY x.n * zY y.n) else ZN (zY x.d * zY y.d)
def mJ (x y : Pt) : zj := bif Rs x y == 0 then Y5 (zY x.n * zY y.n) (zY x.d * zY y.d) else []
def nr : List AV → Option (List zn × AV)
 | [.agg 2 p_x, .agg 2 p_y] => some ([.b (Zm (p_x 0) && Zm (p_x 1)), .b (Zm (p_y 0) && Zm (p_y 1)), .p (tX (⟨AV.bytes (p_x 0), AV.bytes (p_x 1)⟩ : Pt)), .p (tX (⟨AV.bytes (p_y 0), AV.bytes (p_y 1)⟩ : Pt))], .tup 2 (zw [.str (mJ (⟨AV.bytes (p_x 0), AV.bytes (p_x 1)⟩ : Pt) (⟨AV.bytes (p_y 0), AV.bytes (p_y 1)⟩ : Pt)), .i (Rs (⟨AV.bytes (p_x 0), AV.bytes (p_x 1)⟩ : Pt) (⟨AV.bytes (p_y 0), AV.bytes (p_y 1)⟩ : Pt))]))
 | _ => none
theorem kE (G : List (Nat × Obj)) (x : Pt) (y : Pt) (h1 : tX x) (h2 : tX y) :
 let q1 := (True ∧ bA #[] = mJ x y); let q2 := (yA (fun (x1 x2 : Int) => x1 * x2) (Pt.n x) (Pt.n y)); let q3 := (yA (fun (x1 x2 : Int) => x1 * x2) (Pt.d x) (Pt.d y)); ZV [AV.agg 2 (zU.enc x), AV.agg 2 (zU.enc y)] → lN (Pt.n x) ≤ nM ∧ lN (Pt.n y) ≤ nM ∧ zZ (YH (fun (x1 x2 : Int) => x1 * x2) (Pt.n x) (Pt.n y) != iZ) (j2 ∧ q1 ∧ kI ∧ YH (fun (x1 x2 : Int) => x1 * x2) (Pt.n x) (Pt.n y) = Rs x y) (lN (Pt.d x) ≤ nM ∧ lN (Pt.d y) ≤
 nM ∧ zZ (YH (fun (x1 x2 : Int) => x1 * x2) (Pt.d x) (Pt.d y) != iZ) (j2 ∧ q1 ∧ kI ∧ YH (fun (x1 x2 : Int) => x1 * x2) (Pt.d x) (Pt.d y) = Rs x y) (Zs q2 = iZ ∧ Zs q3 = iZ ∧ zY q3 ≠ iZ ∧ j2 ∧ (True ∧ Y5 (zY q2) (zY q3) = mJ x y) ∧ kI ∧ iZ = Rs x y)) := by
 delta bA nM kI j2 lN iZ
 dsimp only
 intro hb
 simp only [sS, dS]
 obtain ⟨a1, a2, a3⟩ := h1
 obtain ⟨b1, b2, b3⟩ := h2
 have l1 := (yx a1).2.1
 have l2 := (yx a2).2.1
 have l3 := (yx b1).2.1
 have l4 := (yx b2).2.1
 obtain ⟨p1, p2⟩ := X4 (f := fun x1 x2 => x1 * x2) a1 b1
 obtain ⟨p5, p6⟩ := X4 (f := fun x1 x2 => x1 * x2) a2 b2
 have bad : ∀ e : Int, e ≠ 0 → e = Rs x y → 2 = [AV.junk, AV.junk].length ∧ [] = mJ x y ∧ e = Rs x y := fun e h0 h => ⟨rfl, by unfold mJ; rw [← h, beq_eq_false_iff_ne.2 h0]; rfl, h⟩
 rw [p1, p2, p5, p6]
 refine ⟨by omega, by omega, fun h => bad _ h ?_, fun g1 => ⟨by omega, by omega, fun h => bad _ h ?_, fun g4 => ?_⟩⟩
 ·unfold Rs; rw [bne_iff_ne.2 h]; rfl
 ·unfold Rs; rw [g1]; rfl
 obtain ⟨s1, s2, s3⟩ := we g1
 obtain ⟨s4, s5, s6⟩ := we g4
 have e : Rs x y = 0 := by unfold Rs; rw [g1, g4]; rfl
 rw [s2, s5]
 exact ⟨s1, s4, Int.mul_ne_zero a3 b3, rfl, by unfold mJ; rw [e]; rfl, e.symm⟩
theorem iv {G : List (Nat × Obj)} (hG : zo G) (x : Pt) (y : Pt) (h1 : tX x) (h2 : tX y) : zt Tryz.prog G 77 [Yh x, Yh y] (.tup 2 (zw [.str (mJ x y), .i (Rs x y)])) :=
 zW (T := ((Wm G).plus 78 WF).plus 79 Vs) (an := .auto) mixed (zz.plus (zz.plus zQ (uo hG)) (so hG)) (Eq.mp (by kernel_rfl) (kE G x y h1 h2))
theorem J1 {G : List (Nat × Obj)} (hG : zo G) : zp Tryz.prog G 77 nr := by
 intro xs ps r h hp
 unfold nr at h
 split at h
 ·skip
  rename_i p_x p_y
  cases h
  obtain ⟨q0, q1, q2, q3, -⟩ := ZH hp
  exact weaken (ys := [Yh (⟨AV.bytes (p_x 0), AV.bytes (p_x 1)⟩ : Pt), Yh (⟨AV.bytes (p_y 0), AV.bytes (p_y 1)⟩ : Pt)]) ⟨Zu (x := .agg 2 p_x) (α := Pt) q0, Zu (x := .agg 2 p_y) (α := Pt) q1, trivial⟩ (iv hG (⟨AV.bytes (p_x 0), AV.bytes (p_x 1)⟩ : Pt) (⟨AV.bytes (p_y 0), AV.bytes (p_y 1)⟩ : Pt) q2 q3)
 ·cases h
end Go.Te
