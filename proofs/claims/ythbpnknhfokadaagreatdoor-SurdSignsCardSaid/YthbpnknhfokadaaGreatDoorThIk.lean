/- integer: Divide, Gcd. -/
import Derived.Test.YthbpnknhfokadaaGreatDoorThIi
set_option linter.unusedSimpArgs false
set_option linter.unusedVariables false
namespace Go.Te
open Go Go.Sx Go.Proofs Go.Ar
set_option maxRecDepth 100000
set_option maxHeartbeats 4000000
theorem MO (m t : Bool) {A B q r : Int} (hB : 0 < B) (h : r + B * q = bif !(m == t) then -A else A) (h0 : 0 ≤ r) (h1 : r < B) :
  Int.fdiv (bif m then -A else A) (bif t then -B else B) = q ∧ Int.fmod (bif m then -A else A) (bif t then -B else B) = bif t then -r else r := by
 cases t with
 | false =>
  refine sO ?_ (.inl ⟨hB, h0, h1⟩)
  cases m <;> simpa using h
 | true =>
  refine sO ?_ (.inr ⟨by simp; omega, by simp; omega, by simp; omega⟩)
  cases m <;> simp [Int.neg_mul] at h ⊢ <;> omega
theorem WT (n : Bool) (k : Nat) : y6 n (zu 1000000000 k) = bif n then -(k : Int) else k := by unfold y6; rw [xO]
theorem mm {a b : zj} (h : Xy a b ≠ 0) : Yw a b = [] ∧ VD a b = [] := by
 unfold Yw VD
 rw [beq_eq_false_iff_ne.2 h]
 exact ⟨rfl, rfl⟩
theorem qB {a b : zj} (h : Xy a b = 0) : Yw a b = Lib.itoa (Int.fdiv (zY a) (zY b)) ∧ VD a b = Lib.itoa (Int.fmod (zY a) (zY b)) := by
 unfold Yw VD
 rw [h]
 exact ⟨rfl, rfl⟩
theorem TP {a : zj} (h : ZQ a = 0) : (zY a).natAbs < 10 ^ 300 := by
 obtain ⟨h1, h2⟩ := yU.1 h
 rw [wY h1] at h2
 exact (ZX (k := 300) (u := (zY a).natAbs) (by omega)).1 h2
theorem iQ {b : zj} (h : Zy b = true) (h0 : b ≠ [48]) : zY b ≠ 0 := fun e => h0 (by
 rw [← YG h, e]
 have : Lib.itoa ((0 : Nat) : Int) = [48] := by rw [Go.Ar.Z8, z8 (by omega)]; rfl
 exact this)
theorem R2 {a : zj} (h : Zy a = true) : (bif zL a then -((zY a).natAbs : Int) else ((zY a).natAbs : Int)) = zY a := by
 have := Y9 h
 rw [WT] at this
 exact this
theorem MB (l : List Int) : Z4 (AV.agg 2 (zw [AV.v ((Value.agg #[Value.bool false, Value.slice none 0 0]).cells.getD 0 undef), AV.xl false 1 l.length fun i j => AV.v (Value.int IntKind.i64 (l.getD i 0))])) = (⟨false, l⟩ : Big) := xC false l
theorem QO (l : List Int) : yt Big (AV.agg 2 (zw [AV.v ((Value.agg #[Value.bool false, Value.slice none 0 0]).cells.getD 0 undef), AV.xl false 1 l.length fun i j => AV.v (Value.int IntKind.i64 (l.getD i 0))])) = true := Y3 false l
def sF : List AV → Option (List zn × AV)
 | [.str a, .str b] => some ([.p (a.length ≤ 4294967280), .p (b.length ≤ 4294967280)], .tup 3 (zw [.str (Yw a b), .str (VD a b), .i (Xy a b)]))
 | _ => none
theorem Kv (G : List (Nat × Obj)) (a : List UInt8) (b : List UInt8) (hla : a.length ≤ 4294967280) (hlb : b.length ≤ 4294967280) :
 let q1 := ((True ∧ bA #[] = Yw a b) ∧ bA #[] = VD a b); let q3 := (bif leB (lZ a) (18 : Int) && leB (lZ b) (18 : Int) then zY b else iZ); let q2 := (DB.db (q3 ≠ iZ)); let q5 := (bif leB (lZ a) (18 : Int) && leB (lZ b) (18 : Int) then zY a else iZ); let q4 := (Int.tdiv q5 q3); let q7 := (Int.tmod q5 q3 != iZ); let q6 := (!zS true q7 || zS true q7); let q8 := (Int.tmod q5 q3); let q9 := (Int.tdiv q5 q3 -
 iO); let q10 := (Int.tmod q5 q3 + bif leB (lZ a) (18 : Int) && leB (lZ b) (18 : Int) then zY b else iZ); let q12 := (zu 1000000000 (Int.natAbs (zY a))); let q11 := (xI q12); let q15 := (zu 1000000000 (Int.natAbs (zY b))); let q14 := (xI q15); let q13 := (zB Int q14); let q16 := (zV q11); let q18 := (zV q14); let q17 := (∀ (x : Int), List.Mem x q18 → (0 :
 Int) ≤ x ∧ x < iB); let q19 := (!zS true !zL a == zL b || zS true !zL a == zL b); let q22 := (zv iB q16); let q23 := (zv iB q18); let q21 := (zu 1000000000 (Int.toNat q22 % Int.toNat q23)); let q20 := (lN q21); let q26 := (zu 1000000000 (Int.toNat q22 / Int.toNat q23)); let q25 := (lN q26); let q24 := (AV.xl false 1 q25 fun i j => aI (gD q26 i zr.dflt)); let q27 := (zV q24); let q28 := (zV (AV.xl true 1 1 (Sx.rowAt [fun (x : Nat) => aI iO]))); let
 q29 := (AV.xl false 1 q20 fun i j => aI (gD q21 i zr.dflt)); let q30 := (zV q29); let q32 := (zu 1000000000 (Int.toNat (zv iB q27 + zv iB q28))); let q31 := (AV.agg 2 (zw [AV.v (Value.bool !zL a == zL b), xI q32])); let q35 := (Z4 q31); let q34 := (Big.l q35); let q37 := (zu 1000000000 (Int.toNat (zv iB q18 - zv iB q30))); let q36 := (AV.agg 2 (zw [AV.v (Value.bool (zL b)), AV.xl false 1
 (lN q37) fun i j => aI (gD q37 i zr.dflt)])); let q39 := (Z4 q36); let q38 := (Big.l q39); let q41 := (y6 (Big.neg q35) q34); let q40 := (Zm q41 != iZ); let q42 := (y6 (Big.neg q39) q38); let q43 := (3 = lN [AV.junk, AV.junk, AV.junk] ∧ q1 ∧ kI ∧ (4 : Int) = Xy a b); let q44 := (AV.agg 2 (zw [AV.v (Value.bool !zL a == zL b), AV.xl false 1 q25 fun i j => aI (gD q26 i zr.dflt)])); let q46 := (Z4 q44); let q45 := (Big.l q46); let q47 := (AV.agg 2 (zw [AV.v (Value.bool (zL b)),
 AV.xl false 1 q20 fun i j => aI (gD q21 i zr.dflt)])); let q49 := (Z4 q47); let q48 := (Big.l q49); let q51 := (y6 (Big.neg q46) q45); let q50 := (Zm q51 != iZ); let q52 := (y6 (Big.neg q49) q48); Zt [AV.str a, AV.str b] → lN a ≤ nM ∧ lN b ≤ nM ∧ zZ (zD a b != iZ) (3 = lN [AV.junk, AV.junk, AV.junk] ∧ q1 ∧ kI ∧ zD a b = Xy a b) (zZ (b == bA #[(48 : UInt8)]) (3 = lN [AV.junk, AV.junk, AV.junk] ∧ q1 ∧ kI ∧
 (12 : Int) = Xy a b) (Zy a = true ∧ Zy b = true ∧ (18 : Int) = (18 : Int) ∧ zZ (leB (lZ a) (18 : Int) && leB (lZ b) (18 : Int)) (bF q2 (bF (dK q4) (bF q2 (bF q6 (bF q6 (bF q6 (bF q6 (bF (!Int.tmod q5 q3 != iZ || zS true q7) (zZ (bif Int.tmod q5 q3 != iZ then !zg q8 iZ == zg q3 iZ else false) (bF (dK q9) (bF (dK q10) ((iN ≤ Int.tdiv q5 q3 - iO ∧ Int.tdiv q5 q3 - iO ≤ iX)
 ∧ ((iN ≤ Int.tmod q5 q3 + bif leB (lZ a) (18 : Int) && leB (lZ b) (18 : Int) then zY b else iZ) ∧ q10 ≤ iX) ∧ 3 = lN [AV.junk, AV.junk, AV.junk] ∧ ((True ∧ Lib.itoa q9 = Yw a b) ∧ Lib.itoa q10 = VD a b) ∧ kI ∧ iZ = Xy a b))) ((iN ≤ Int.tdiv q5 q3 ∧ Int.tdiv q5 q3 ≤ iX) ∧ (iN ≤ Int.tmod q5 q3 ∧ Int.tmod q5 q3 ≤ iX) ∧ 3 = lN [AV.junk, AV.junk,
 AV.junk] ∧ ((True ∧ Lib.itoa q4 = Yw a b) ∧ Lib.itoa q8 = VD a b) ∧ kI ∧ iZ = Xy a b)))))))))) (Zy a = true ∧ lN a ≤ 100000000 ∧ Zy b = true ∧ lN b ≤ 100000000 ∧ bF (zB Int q11) (bF q13 ((∀ (x : Int), List.Mem x q16 → iZ ≤ x ∧ x < iB) ∧ q17 ∧ zI q16 = zV q11 ∧ zI q18 = zV q14 ∧ lN q18 ≠ 0 ∧ lN q16 ≤ 100000000 ∧ lN q18 ≤ 100000000 ∧ bF q19 (bF q19 (bF (!!zL a == zL b || zS true !zL a == zL b) (zZ
 (bif !zL a == zL b then zg iZ (cI q20) else false) (bF (zB Int q24) ((∀ (x : Int), List.Mem x q27 → iZ ≤ x ∧ x < iB) ∧ (∀ (x : Int), List.Mem x (zV (AV.xl true 1 1 (Sx.rowAt [fun (x : Nat) => aI iO]))) → iZ ≤ x ∧ x < iB) ∧ lN q27 ≤ 1000000000 ∧ lN q28 ≤ 1000000000 ∧ bF q13 (bF (zB Int q29) (q17 ∧ (∀ (x : Int), List.Mem x q30 → iZ ≤ x ∧ x < iB) ∧ lN q18 ≤ 1000000000 ∧ lN q30 ≤ 1000000000 ∧ zv iB q30 ≤ zv
 iB q18 ∧ bF (yt Big q31) ((∀ (x : Int), let q33 := (zu 1000000000 (Int.toNat (zv iB q27 + zv iB (zV (AV.xl true 1 1 (Sx.rowAt [fun (x : Nat) => aI iO])))))); List.Mem x (Big.l (Z4 (AV.agg 2 (zw [AV.v (Value.bool !zL a == zL b), xI q33])))) → iZ ≤ x ∧ x < iB) ∧ zI q34 = Big.l q35 ∧ lN q34 ≤ 100000000 ∧ bF (yt Big q36) ((∀ (x : Int), List.Mem x q38 → iZ ≤ x ∧ x <
 iB) ∧ zI q38 = Big.l q39 ∧ lN q38 ≤ 100000000 ∧ bF (!zS false q40 || zS false q40) (bF (!!Zm q41 != iZ || zS false q40) (zZ (bif Zm q41 != iZ then true else Zm q42 != iZ) q43 (3 = lN [AV.junk, AV.junk, AV.junk] ∧ ((True ∧ YL q41 = Yw a b) ∧ YL q42 = VD a b) ∧ kI ∧ iZ = Xy a b))))))))) (bF (yt Big q44) ((∀ (x : Int), List.Mem x q45 → iZ ≤ x ∧ x < iB) ∧ zI q45 = Big.l q46 ∧ lN q45 ≤ 100000000 ∧ zZ
 (yt Big q47) ((∀ (x : Int), List.Mem x q48 → iZ ≤ x ∧ x < iB) ∧ zI q48 = Big.l q49 ∧ lN q48 ≤ 100000000 ∧ bF (!zS false q50 || zS false q50) (bF (!!Zm q51 != iZ || zS false q50) (zZ (bif Zm q51 != iZ then true else Zm q52 != iZ) q43 (3 = lN [AV.junk, AV.junk, AV.junk] ∧ ((True ∧ YL q51 = Yw a b) ∧ YL q52 = VD a b) ∧ kI ∧ iZ = Xy a b)))) False)))))))))) := by
 delta bF dK bA xI nM cI kI lZ lN gD iZ iO iX iN iB aI
 dsimp only
 intro hb
 have e0 : (zr.dflt : Int) = 0 := rfl
 simp only [↓yy, ↓Zi, row_one]
 simp only [sS, dS, e0, Xw, Y6, xC, Y3, wV, XW, wu, Xv, Xi, LK, xO, lc, MB, QO]
 refine ⟨by omega, by omega, fun hE => ?_, fun hE => zX.2 ⟨fun c0 => ?_, fun c0 => ?_⟩⟩
 ·have e : Xy a b = zD a b := by unfold Xy; rw [bne_iff_ne.2 hE]; rfl
  obtain ⟨d1, d2⟩ := mm (a := a) (b := b) (by rw [e]; exact hE)
  exact ⟨rfl, ⟨d1.symm, d2.symm⟩, e.symm⟩
 ·have e : Xy a b = 12 := by unfold Xy; rw [hE, c0]; rfl
  obtain ⟨d1, d2⟩ := mm (a := a) (b := b) (by rw [e]; decide)
  exact ⟨rfl, ⟨d1.symm, d2.symm⟩, e.symm⟩
 have e : Xy a b = 0 := by unfold Xy; rw [hE, c0]; rfl
 obtain ⟨d1, d2⟩ := qB e
 obtain ⟨hA, hB⟩ := xx hE
 obtain ⟨a1, a2, a3⟩ := yV hA
 obtain ⟨b1, b2, b3⟩ := yV hB
 have a4 := TP hA
 have b4 := TP hB
 have hv := iQ b3 (beq_eq_false_iff_ne.1 c0)
 rw [d1, d2, e]
 refine ⟨a3, b3, zX.2 ⟨fun c => ?_, fun c => ?_⟩⟩
 ·rw [c]
  rw [Bool.and_eq_true] at c
  have x1 := jo a3 c.1
  have x2 := jo b3 c.2
  simp only [cond_true]
  obtain ⟨f1, f2, f3, f4⟩ := Nk (a := zY a) (b := zY b) hv
  refine ⟨hv, ⟨by omega, by omega⟩, hv, zX.2 ⟨fun cc => ?_, fun cc => ?_⟩⟩
  ·obtain ⟨g1, g2⟩ := f1 cc
   rw [g1, g2]
   exact ⟨⟨by omega, by omega⟩, ⟨by omega, by omega⟩, ⟨by omega, by omega⟩, ⟨by omega, by omega⟩, rfl, ⟨rfl, rfl⟩, trivial⟩
  ·obtain ⟨g1, g2⟩ := f2 cc
   rw [g1, g2]
   exact ⟨⟨by omega, by omega⟩, ⟨by omega, by omega⟩, rfl, ⟨rfl, rfl⟩, trivial⟩
 have wa := R2 a3
 have wb := R2 b3
 have la := WW a1
 have lb := WW b1
 have hB0 : 0 < (zY b).natAbs := by omega
 have hdm := Nat.div_add_mod (zY a).natAbs (zY b).natAbs
 have hml := Nat.mod_lt (zY a).natAbs hB0
 have hdl : (zY a).natAbs / (zY b).natAbs ≤ (zY a).natAbs := Nat.div_le_self _ _
 have lb0 : (zu 1000000000 (zY b).natAbs).length ≠ 0 := fun e => by have := Xf (b := 1000000000) (by omega) e; omega
 have lq := Z6 (b := 1000000000) (by omega) hdl
 have lr := Z6 (b := 1000000000) (by omega) (Nat.le_of_lt hml)
 rw [← wa, ← wb]
 rw [show (bif zL a then -((zY a).natAbs : Int) else ((zY a).natAbs : Int)).natAbs = (zY a).natAbs from by rw [wa], show (bif zL b then -((zY b).natAbs : Int) else ((zY b).natAbs : Int)).natAbs = (zY b).natAbs from by rw [wb]]
 clear wa wb e d1 d2 hv a1 b1 c
 generalize hAA : (zY a).natAbs = A at *
 generalize hBB : (zY b).natAbs = B at *
 generalize zL a = m at *
 generalize zL b = t at *
 have hdmI : (B : Int) * ((A / B : Nat) : Int) + ((A % B : Nat) : Int) = (A : Int) := by exact_mod_cast hdm
 generalize A / B = Q at *
 generalize A % B = R at *
 refine ⟨a3, by omega, b3, by omega, (Zf _).1, (Zf _).1, (Zf _).2, (Zf _).2, lb0, by omega, by omega, zX.2 ⟨fun cc => ?_, fun cc => ?_⟩⟩
 ·rw [Bool.and_eq_true, zq] at cc
  have hr0 : R ≠ 0 := fun e => by have := cc.2; rw [e, ZB] at this; exact absurd this (by decide)
  have hB2 : 2 * Q ≤ B * Q := Nat.mul_le_mul_right _ (by omega)
  have eq : ((Q : Int) + 1).toNat = Q + 1 := by omega
  have er : ((B : Int) - (R : Int)).toNat = B - R := by omega
  obtain ⟨g1, g2⟩ := MO m t (A := A) (B := B) (q := -((Q + 1 : Nat) : Int)) (r := ((B - R : Nat) : Int)) (by omega) (by
   rw [cc.1, cond_true, Int.mul_neg, Int.natCast_add, Int.mul_add]; omega) (by omega) (by omega)
  have lq2 := Z6 (b := 1000000000) (m := Q + 1) (n := A) (by omega) (by omega)
  have lr2 := Z6 (b := 1000000000) (m := B - R) (n := B) (by omega) (by omega)
  simp only [eq, er, WT]
  rw [g1, g2, cc.1, cond_true]
  obtain ⟨r1, r2⟩ := ZP (n := -((Q + 1 : Nat) : Int)) (k := 300) (by omega) (by omega) (by rw [Int.natAbs_neg, Int.natAbs_natCast]; omega)
  obtain ⟨r3, r4⟩ := ZP (n := bif t then -((B - R : Nat) : Int) else ((B - R : Nat) : Int)) (k := 300) (by omega) (by omega) (by cases t <;> simp only [cond_true, cond_false, Int.natAbs_neg, Int.natAbs_natCast] <;> omega)
  rw [r1, r2, r3, r4]
  have o1 : Zp 1000000000 [1] := .one (by omega) (by omega)
  refine ⟨(Zf _).1, o1, by omega, by simp, (Zf _).1, (Zf _).1, by omega, by omega, by omega, (Zf _).1, (Zf _).2, by omega, (Zf _).1, (Zf _).2, by omega, ?_⟩
  exact ⟨rfl, ⟨rfl, rfl⟩, trivial⟩
 ·have hq : Int.fdiv (bif m then -(A : Int) else (A : Int)) (bif t then -(B : Int) else (B : Int)) = (bif !(m == t) then -(Q : Int) else (Q : Int)) ∧
    Int.fmod (bif m then -(A : Int) else (A : Int)) (bif t then -(B : Int) else (B : Int)) = bif t then -(R : Int) else (R : Int) := by
   refine MO m t (by omega) ?_ (by omega) (by omega)
   cases hs : !(m == t) with
   | false => simp only [cond_false]; omega
   | true =>
    rw [hs, Bool.true_and] at cc
    have hr0 : R = 0 := by
     refine Decidable.byContradiction fun hn => ?_
     have h1 : (zu 1000000000 R).length ≠ 0 := fun e => hn (Xf (b := 1000000000) (by omega) e)
     rw [(zq _ _).2 (by omega)] at cc
     cases cc
    rw [hr0] at hdmI ⊢
    simp only [cond_true, Int.mul_neg]
    omega
  obtain ⟨g1, g2⟩ := hq
  simp only [WT]
  rw [g1, g2]
  obtain ⟨r1, r2⟩ := ZP (n := bif !(m == t) then -(Q : Int) else (Q : Int)) (k := 300) (by omega) (by omega) (by cases !(m == t) <;> simp only [cond_true, cond_false, Int.natAbs_neg, Int.natAbs_natCast] <;> omega)
  obtain ⟨r3, r4⟩ := ZP (n := bif t then -(R : Int) else (R : Int)) (k := 300) (by omega) (by omega) (by cases t <;> simp only [cond_true, cond_false, Int.natAbs_neg, Int.natAbs_natCast] <;> omega)
  rw [r1, r2, r3, r4]
  exact ⟨(Zf _).1, (Zf _).2, by omega, (Zf _).1, (Zf _).2, by omega, rfl, ⟨rfl, rfl⟩, trivial⟩
theorem JV {G : List (Nat × Obj)} (hG : zo G) (a : List UInt8) (b : List UInt8) (hla : a.length ≤ 4294967280) (hlb : b.length ≤ 4294967280) : zU Tryz.prog G 115 [.str a, .str b] (.tup 3 (zw [.str (Yw a b), .str (VD a b), .i (Xy a b)])) :=
 zW (T := jL G) (an := .auto) mixed (x5 hG) (Eq.mp (by kernel_rfl) (Kv G a b hla hlb))
theorem MA {G : List (Nat × Obj)} (hG : zo G) : zp Tryz.prog G 115 sF := by
 intro xs ps r h hp
 unfold sF at h
 split at h
 ·skip
  rename_i a b
  cases h
  obtain ⟨q0, q1, -⟩ := ZF hp
  exact weaken (ys := [.str a, .str b]) ⟨zT _, zT _, trivial⟩ (JV hG a b q0 q1)
 ·cases h
structure wJ where
 x : Int
 y : Int
structure VW where
 x : Nat
 y : Nat
def kD (a b : zj) : yS :=
 .two .auto (.two .auto (.two (.two .auto (.two .auto (.two (.two (.one (.loop wJ (fun σ z => [(7, .i z.x), (8, .i z.y)]) (fun σ z => []) 0 (fun σ z => Nat.gcd z.x.natAbs z.y.natAbs = yP a b ∧ z.x.natAbs ≤ 1000000000000000000 ∧ z.y.natAbs ≤ 1000000000000000000) (fun σ z => z.y.natAbs) .auto)) .auto) .auto))) (.two .auto (.two (.one (.loop VW (fun σ z => [(10, ZD (zu 1000000000 z.x)), (11, ZD (zu 1000000000 z.y))]) (fun σ z => []) 0 (fun σ z => Nat.gcd z.x z.y = yP a b ∧ (zu 1000000000 z.x).length ≤ 100000000 ∧ (zu 1000000000 z.y).length ≤ 100000000) (fun σ z => z.y) .auto)) .auto))))
def SO : List AV → Option (List zn × AV)
 | [.str a, .str b] => some ([.p (a.length ≤ 4294967280), .p (b.length ≤ 4294967280)], .tup 2 (zw [.str (bif zD a b != 0 then [] else Lib.itoa (yP a b : Int)), .i (zD a b)]))
 | _ => none
theorem KA (G : List (Nat × Obj)) (a : List UInt8) (b : List UInt8) (hla : a.length ≤ 4294967280) (hlb : b.length ≤ 4294967280) :
 let q2 := (zu 1000000000 (Int.natAbs (zY a))); let q3 := (zu 1000000000 (Int.natAbs (zY b))); Zt [AV.str a, AV.str b] → lN a ≤ nM ∧ lN b ≤ nM ∧ zZ (zD a b != iZ) (j2 ∧ (True ∧ bA #[] = bif zD a b != iZ then [] else Lib.itoa (cI (yP a b))) ∧ kI ∧ zD a b = zD a b) (Zy a = true ∧ Zy b = true ∧ (18 : Int) = (18 : Int) ∧ zZ (leB (lZ a) (18 : Int) && leB (lZ b) (18 : Int)) ((∃ (z : wJ),
 ((Nat.gcd (Int.natAbs (wJ.x z)) (Int.natAbs (wJ.y z)) = yP a b ∧ Int.natAbs (wJ.x z) ≤ 1000000000000000000 ∧ Int.natAbs (wJ.y z) ≤ 1000000000000000000) ∧ (kI ∧ (bif leB (lZ a) (18 : Int) && leB (lZ b) (18 : Int) then zY a else iZ) = wJ.x z) ∧ kI ∧ (bif leB (lZ a) (18 : Int) && leB (lZ b) (18 : Int) then zY b else iZ) = wJ.y z) ∧ True) ∧ ∀ (z : wJ), let q1 := (if -wJ.x z > wJ.x z then -wJ.x z else wJ.x z); Nat.gcd (Int.natAbs (wJ.x z)) (Int.natAbs (wJ.y z)) =
 yP a b ∧ Int.natAbs (wJ.x z) ≤ 1000000000000000000 ∧ Int.natAbs (wJ.y z) ≤ 1000000000000000000 → zZ (wJ.y z != iZ) (bF (DB.db (wJ.y z ≠ iZ)) (∃ (z' : wJ), (((Nat.gcd (Int.natAbs (wJ.x z')) (Int.natAbs (wJ.y z')) = yP a b ∧ Int.natAbs (wJ.x z') ≤ 1000000000000000000 ∧ Int.natAbs (wJ.y z') ≤ 1000000000000000000) ∧ Int.natAbs (wJ.y z') < Int.natAbs (wJ.y z)) ∧ (kI ∧ wJ.y z = wJ.x z') ∧ kI ∧ Int.tmod (wJ.x z) (wJ.y z) = wJ.y z') ∧ True)) (bF (dK (-wJ.x z)) (((iN ≤ if -wJ.x z
 > wJ.x z then -wJ.x z else wJ.x z) ∧ q1 ≤ iX) ∧ j2 ∧ (True ∧ Lib.itoa q1 = bif zD a b != iZ then [] else Lib.itoa (cI (yP a b))) ∧ kI ∧ iZ = zD a b))) (Zy a = true ∧ lN a ≤ 100000000 ∧ Zy b = true ∧ lN b ≤ 100000000 ∧ (∃ (z : VW), ((Nat.gcd (VW.x z) (VW.y z) = yP a b ∧ lN (zu 1000000000 (VW.x z)) ≤ 100000000 ∧ lN (zu 1000000000 (VW.y z)) ≤ 100000000) ∧ zE (AV.xl false 1 (lN q2) fun i j => aI (gD q2 i
 zr.dflt)) (xI (zu 1000000000 (VW.x z))) ∧ (false = true → false = true) ∧ 1 = 1 ∧ lN (zu 1000000000 (VW.y z)) = lN q3 ∧ ∀ (i j : Nat), i < lN q3 → j < 1 → kI ∧ gD q3 i zr.dflt = gD (zu 1000000000 (VW.y z)) i zr.dflt) ∧ True) ∧ ∀ (z : VW), let q4 := (lN (zu 1000000000 (VW.y z))); let q6 := (lN (zu 1000000000 (VW.x z))); let q5 := (AV.xl false 1 q6 fun i j => aI (List.getD
 (zu 1000000000 (VW.x z)) i zr.dflt)); let q7 := (AV.xl false 1 q4 fun i j => aI (gD (zu 1000000000 (VW.y z)) i zr.dflt)); let q8 := (zV q5); let q9 := (zV q7); let q10 := (zu 1000000000 (Int.toNat (zv iB q8) % Int.toNat (zv iB q9))); let q11 := (AV.agg 2 (zw [AV.v (Array.getD (Value.cells (Value.agg #[Value.bool false, Value.slice (X5 Addr) 0 0])) 0 undef), AV.xl false 1 q6 fun i j => aI (gD (zu 1000000000 (VW.x z)) i zr.dflt)])); let q13 := (Z4 q11); let q12 := (Big.l q13);
 let q14 := (y6 (Big.neg q13) q12); Nat.gcd (VW.x z) (VW.y z) = yP a b ∧ lN (zu 1000000000 (VW.x z)) ≤ 100000000 ∧ lN (zu 1000000000 (VW.y z)) ≤ 100000000 → zZ (zg iZ (cI q4)) (bF (zB Int q5) (bF (zB Int q7) ((∀ (x : Int), List.Mem x q8 → iZ ≤ x ∧ x < iB) ∧ (∀ (x : Int), List.Mem x q9 → iZ ≤ x ∧ x < iB) ∧ zI q8 = zV q5 ∧ zI q9 = zV q7 ∧ lN q9 ≠ 0 ∧ lN q8 ≤ 100000000 ∧ lN q9 ≤ 100000000 ∧ ∃ (z' : VW), (((Nat.gcd (VW.x z') (VW.y z') = yP a b ∧
 lN (zu 1000000000 (VW.x z')) ≤ 100000000 ∧ lN (zu 1000000000 (VW.y z')) ≤ 100000000) ∧ VW.y z' < VW.y z) ∧ zE q7 (xI (zu 1000000000 (VW.x z'))) ∧ (false = true → false = true) ∧ 1 = 1 ∧ lN (zu 1000000000 (VW.y z')) = lN q10 ∧ ∀ (i j : Nat), i < lN q10 → j < 1 → kI ∧ gD q10 i zr.dflt = gD (zu 1000000000 (VW.y z')) i zr.dflt) ∧ True))) (bF (yt Big q11) ((∀ (x : Int),
 List.Mem x q12 → iZ ≤ x ∧ x < iB) ∧ zI q12 = Big.l q13 ∧ lN q12 ≤ 100000000 ∧ j2 ∧ (True ∧ YL q14 = bif zD a b != iZ then [] else Lib.itoa (cI (yP a b))) ∧ kI ∧ Zm q14 = zD a b)))) := by
 delta bF dK bA xI nM cI kI j2 lZ lN gD iZ iX iN iB aI
 dsimp only
 intro hb
 have e0 : (zr.dflt : Int) = 0 := rfl
 simp only [↓yy, ↓Zi, row_one]
 simp only [sS, dS, e0, Xw, Y6, xC, Y3, wV, XW, wu, Xv, Xi, LK, xO, lc, MB, QO]
 refine ⟨by omega, by omega, fun hE => ⟨rfl, by rw [bne_iff_ne.2 hE]; rfl⟩, fun hE => ?_⟩
 obtain ⟨hA, hB⟩ := xx hE
 obtain ⟨a1, a2, a3⟩ := yV hA
 obtain ⟨b1, b2, b3⟩ := yV hB
 have la := WW a1
 have lb := WW b1
 have gl : yP a b ≤ (zY a).natAbs + (zY b).natAbs := by
  unfold yP
  by_cases h : (zY a).natAbs = 0
  ·rw [h, Nat.gcd_zero_left]; omega
  ·exact Nat.le_trans (Nat.le_of_dvd (by omega) (Nat.gcd_dvd_left _ _)) (by omega)
 have a4 := TP hA
 have b4 := TP hB
 have gl3 : yP a b < 10 ^ 300 := by
  unfold yP
  by_cases h : (zY a).natAbs = 0
  ·rw [h, Nat.gcd_zero_left]; exact b4
  ·exact Nat.lt_of_le_of_lt (Nat.le_of_dvd (by omega) (Nat.gcd_dvd_left _ _)) a4
 rw [hE]
 simp only [bne_self_eq_false, cond_false]
 refine ⟨a3, b3, zX.2 ⟨fun c => ?_, fun c => ?_⟩⟩
 ·rw [c]
  rw [Bool.and_eq_true] at c
  have x1 := jo a3 c.1
  have x2 := jo b3 c.2
  simp only [cond_true]
  refine ⟨⟨⟨zY a, zY b⟩, ⟨rfl, by simp only; omega, by simp only; omega⟩, rfl, rfl⟩, fun z ⟨z1, z2, z3⟩ => ⟨fun hy => ⟨hy, ⟨z.y, z.x.tmod z.y⟩, ⟨⟨?_, z3, ?_⟩, ?_⟩, rfl, rfl⟩, fun hy => ?_⟩⟩
  ·rw [Int.natAbs_tmod, ← UT (y := z.y.natAbs) (by omega), z1]
  ·rw [Int.natAbs_tmod]
   have : z.x.natAbs % z.y.natAbs ≤ z.x.natAbs := Nat.mod_le _ _
   omega
  ·rw [Int.natAbs_tmod]
   exact Nat.mod_lt _ (by omega)
  ·rw [hy, Int.natAbs_zero, Nat.gcd_zero_right] at z1
   rw [pz, z1]
   rw [z1] at z2
   exact ⟨⟨by omega, by omega⟩, ⟨by omega, by omega⟩, rfl, rfl, trivial⟩
 ·refine ⟨a3, by omega, b3, by omega, ⟨⟨(zY a).natAbs, (zY b).natAbs⟩, ⟨rfl, by simp only; omega, by simp only; omega⟩, zT _, fun h => h, rfl, fun _ _ _ _ => rfl⟩, fun z ⟨z1, z2, z3⟩ => ⟨fun hy => ?_, fun hy => ?_⟩⟩
  ·have hy0 : z.y ≠ 0 := fun e => by rw [e, ZB] at hy; exact absurd hy (by decide)
   have hm : z.x % z.y < z.y := Nat.mod_lt _ (by omega)
   have hlen := Z6 (b := 1000000000) (m := z.x % z.y) (n := z.y) (by omega) (by omega)
   exact ⟨(Zf _).1, (Zf _).1, (Zf _).2, (Zf _).2, by omega, z2, z3, ⟨z.y, z.x % z.y⟩, ⟨⟨by rw [← UT hy0]; exact z1, z3, by simp only; omega⟩, hm⟩, zT _, fun h => h, rfl, fun _ _ _ _ => rfl⟩
  ·have hy0 := Xf (b := 1000000000) (n := z.y) (by omega) (by omega)
   rw [hy0, Nat.gcd_zero_right] at z1
   rw [WT, cond_false, z1]
   rw [z1] at z2
   obtain ⟨r1, r2⟩ := ZP (n := (yP a b : Int)) (k := 300) (by omega) (by omega) (by rw [Int.natAbs_natCast]; exact gl3)
   rw [r1, r2]
   exact ⟨(Zf _).1, (Zf _).2, z2, rfl, rfl, rfl⟩
theorem iC {G : List (Nat × Obj)} (hG : zo G) (a : List UInt8) (b : List UInt8) (hla : a.length ≤ 4294967280) (hlb : b.length ≤ 4294967280) : zU Tryz.prog G 96 [.str a, .str b] (.tup 2 (zw [.str (bif zD a b != 0 then [] else Lib.itoa (yP a b : Int)), .i (zD a b)])) :=
 zW (T := jL G) (an := kD a b) mixed (x5 hG) (Eq.mp (by kernel_rfl) (KA G a b hla hlb))
theorem nU {G : List (Nat × Obj)} (hG : zo G) : zp Tryz.prog G 96 SO := by
 intro xs ps r h hp
 unfold SO at h
 split at h
 ·skip
  rename_i a b
  cases h
  obtain ⟨q0, q1, -⟩ := ZF hp
  exact weaken (ys := [.str a, .str b]) ⟨zT _, zT _, trivial⟩ (iC hG a b q0 q1)
 ·cases h
end Go.Te

namespace Go.Te
open Go Go.Sx Go.Proofs Go.Ar
set_option maxRecDepth 100000
set_option maxHeartbeats 4000000
def yZ (a : zj) : zj := bif zJ a then zb a else [49]
theorem YU (n : Int) : ZQ (Lib.itoa n) = Zm n := by
 obtain ⟨h1, h2⟩ := zC n
 have h3 := wY h1
 rw [h2] at h3
 unfold ZQ Zm
 rw [h1, h3]
 rfl
theorem lf {a : zj} (h : zh a = 0) : ZQ (zO a) = 0 ∧ ZQ (yZ a) = 0 ∧ zY (zO a) = zM a ∧ zY (yZ a) = (zP a : Int) := by
 obtain ⟨h1, h2, h3, _⟩ := Zq.1 h
 have hi : Zy (zO a) = true := by
  unfold Zn at h1
  rw [Bool.and_eq_true] at h1
  exact h1.1
 refine ⟨yU.2 ⟨hi, h2⟩, ?_, rfl, ?_⟩
 all_goals
  unfold yZ
  cases hs : zJ a with
  | false =>
   first
    | (show ZQ [49] = 0; exact yU.2 (by decide))
    | (unfold zP; rw [hs]; show zY [49] = ((1 : Nat) : Int); decide)
  | true =>
   unfold Zn at h1
   rw [hs] at h1
   have hd : Z1 (zb a) = true := by
    revert h1
    cases Z1 (zb a) <;> simp
   obtain ⟨i1, i2⟩ := wD hd
   first
    | exact yU.2 ⟨i1, Nat.le_trans (wW _).1 h3⟩
    | (unfold zP; rw [hs]; exact i2)
theorem Jk (s : zj) : s.length ≤ (zR s).length + 1 := by
 unfold zR
 cases zL s with
 | true => rw [cond_true, List.length_drop]; omega
 | false => rw [cond_false]; omega
theorem s7 (g : Nat) : (Lib.itoa (g : Int) == [49]) = Nat.beq g 1 := by
 rw [Go.Ar.Z8, Bool.eq_iff_iff, beq_iff_eq, Nat.beq_eq]
 constructor
 ·intro h
  have := congrArg ze h
  rw [Z7] at this
  exact this
 ·intro h
  rw [h, z8 (by decide)]; rfl
theorem Gm {a b : zj} (ha : zh a = 0) (hb : zh b = 0) : Yd (fun x1 x2 => x1 * x2) (zO a) (yZ b) = Zm (zM a * (zP b : Int)) ∧ y5 (fun x1 x2 => x1 * x2) (zO a) (yZ b) = YL (zM a * (zP b : Int)) := by
 obtain ⟨a1, a2, a3, a4⟩ := lf ha
 obtain ⟨b1, b2, b3, b4⟩ := lf hb
 have hE : zD (zO a) (yZ b) = 0 := by unfold zD; rw [a1, b2]; rfl
 obtain ⟨e1, e2⟩ := uv (f := fun x1 x2 => x1 * x2) hE
 rw [a3, b4] at e1 e2
 exact ⟨e2, e1⟩
theorem Lh {n m : Int} (hn : Zm n = 0) (hm : Zm m = 0) : yc (YL n) (YL m) = xS n m ∧ zD (YL n) (YL m) = 0 ∧ (YL n).length ≤ 4294967280 ∧ (YL m).length ≤ 4294967280 := by
 have e : ∀ k, Zm k = 0 → YL k = Lib.itoa k := fun k h => by unfold YL; rw [h]; rfl
 have l : ∀ k, Zm k = 0 → (Lib.itoa k).length ≤ 4294967280 := fun k h => by
  rw [x7]
  have : ¬ 300 < Xx k := fun e => by unfold Zm at h; rw [(Zx _ _).2 e] at h; cases h
  split <;> omega
 rw [e n hn, e m hm]
 have hE : zD (Lib.itoa n) (Lib.itoa m) = 0 := by
  unfold zD
  rw [YU, hn, YU, hm]
  rfl
 refine ⟨?_, hE, l n hn, l m hm⟩
 unfold yc
 rw [hE, (zC n).2, (zC m).2]
 rfl
theorem yI {a : zj} (h : Zz a = true) : zh a = 0 ∧ (zM a).natAbs ≤ 99999999 ∧ zP a ≤ 99999999 := by
 obtain ⟨h1, h2, h3, h4⟩ := X2.1 h
 obtain ⟨g1, g2, g3⟩ := xL.1 h1
 have hr : zh a = 0 := by
  unfold Zz at h
  rw [Bool.and_eq_true, Bool.and_eq_true, beq_iff_eq] at h
  exact h.1.1
 have b := vX g1 (k := 8) h2
 rw [show 10 ^ 8 = 100000000 from by decide] at b
 refine ⟨hr, by rw [Uj]; omega, ?_⟩
 rw [(Sv (a := a)).2]
 cases hs : zJ (zR a) with
 | false => show 1 ≤ 99999999; decide
 | true =>
  have b := vX (g3 hs).1 (k := 8) h3
  rw [show 10 ^ 8 = 100000000 from by decide] at b
  simp only [cond_true]
  omega
noncomputable def Gy (G : List (Nat × Obj)) : Tb := ((((W2 G).plus 94 qO).plus 55 VE).plus 95 (Yk fun s => .str (zR s))).plus 96 SO
theorem Ol {G : List (Nat × Obj)} (hG : zo G) : zz Tryz.prog (Gy G) := zz.plus (zz.plus (zz.plus (zz.plus zQ (zp.mono j8)) (zp.mono Si)) (zp.mono VZ)) (nU hG)
def wz : List AV → Option (List zn × AV)
 | [.str a] => some ([.p (a.length ≤ 9223372036854775807)], .tup 2 (zw [.agg 2 (zw [.str (bif zh a == 0 then zO a else []), .str (bif zh a == 0 then yZ a else [])]), .i (zh a)]))
 | _ => none
theorem lu (G : List (Nat × Obj)) (a : List UInt8) (hl : a.length ≤ 9223372036854775807) :
 let q2 := (True ∧ 2 = 2 ∧ (bA #[] = bif zh a == iZ then zO a else []) ∧ bA #[] = bif zh a == iZ then yZ a else []); let q1 := (j2 ∧ q2 ∧ kI ∧ (11 : Int) = zh a); let q4 := (bif Zn a then bif zJ a then zb a else [(49 : UInt8)] else []); let q3 := (j2 ∧ (True ∧ 2 = 2 ∧ ((bif Zn a then zO a else []) = bif zh a == iZ then zO a else []) ∧ q4 = bif zh a == iZ then yZ a else []) ∧
 kI ∧ iZ = zh a); let q7 := (lZ (zR (bif Zn a then zO a else []))); let q6 := (zg (300 : Int) q7); let q5 := (!zS false q6 || zS false q6); let q8 := (ByteArray.data (ByteArray.mk #[(49 : UInt8)])); let q9 := (zD (bif Zn a then zO a else []) q4 != iZ); Zt [AV.str a] → lN a ≤ nX ∧ zZ (!Zn a) q1 (lN a ≤ nX ∧ zZ (Zz a) q3 (bF q5 (bF q5 (bF q5 (bF (!!zg (300 : Int) q7 || zS false q6) (zZ (bif zg (300 : Int) q7 then true else zg (300 : Int)
 (lZ q4)) (j2 ∧ q2 ∧ kI ∧ (4 : Int) = zh a) (zZ (q4 == Array.toList q8) q3 (lN (bif Zn a then zO a else []) ≤ nM ∧ lN q4 ≤ nM ∧ bF (!zS false q9 || zS false q9) (bF (!!zD (bif Zn a then zO a else []) q4 != iZ || zS false q9) (zZ (bif zD (bif Zn a then zO a else []) q4 != iZ then true else !(bif zD (bif Zn a then zO a else []) q4 != iZ then [] else Lib.itoa (cI (yP (bif Zn a then zO a else []) q4))) == Array.toList
 q8) q1 q3)))))))))) := by
 delta bF bA nX nM cI kI j2 lZ lN iZ
 dsimp only
 intro hb
 simp only [sS, dS, xt]
 have hFO := X3 a
 have hden : (bif zJ a then zb a else [49]) = yZ a := rfl
 obtain ⟨o1, o2, o3, o4, o5, o6, o7⟩ := Yf a
 refine ⟨hl, zX.2 ⟨fun c => ?_, fun c => ?_⟩⟩
 ·have c : Zn a = false := by simpa using c
  rw [c] at hFO
  rw [RE hFO.symm]
  exact ⟨rfl, ⟨rfl, rfl⟩, rfl⟩
 have c : Zn a = true := by simpa using c
 have hFO' : WX a = true := hFO.symm.trans c
 simp only [c, cond_true, hden]
 have fin : zh a = 0 → 2 = [AV.junk, AV.junk].length ∧ ((zO a = bif zh a == 0 then zO a else []) ∧ yZ a = bif zh a == 0 then yZ a else []) ∧ 0 = zh a := fun h => by rw [h]; exact ⟨rfl, ⟨rfl, rfl⟩, rfl⟩
 have bad : ∀ e : Int, e ≠ 0 → zh a = e → 2 = [AV.junk, AV.junk].length ∧ (([] = bif zh a == 0 then zO a else []) ∧ [] = bif zh a == 0 then yZ a else []) ∧ e = zh a := fun e h0 h => by
  rw [h, beq_eq_false_iff_ne.2 h0]; exact ⟨rfl, ⟨rfl, rfl⟩, rfl⟩
 have hlen : (zR (zO a)).length = (zO (zR a)).length := by rw [← (sG (zO a)).2, o5]
 have hcd := vO a
 have hdd := qZ a
 refine ⟨hl, zX.2 ⟨fun k => fin (yI k).1, fun k => zX.2 ⟨fun k2 => bad 4 (by decide) (O2 hFO' ?_), fun k2 => zX.2 ⟨fun k3 => ?_, fun k3 => ?_⟩⟩⟩⟩
 ·rw [Bool.or_eq_true, zq, zq, hlen] at k2
  rcases k2 with k2 | k2
  ·exact .inl (by omega)
  ·refine .inr ?_
   rw [← o2]
   unfold yZ at k2
   cases hs : zJ a with
   | true => rw [hs, cond_true] at k2; omega
   | false => rw [hs, cond_false] at k2; exact absurd k2 (by decide)
 ·have hs : zJ a = false := by
   cases hs : zJ a with
   | false => rfl
   | true =>
    unfold yZ at k3
    rw [hs, cond_true] at k3
    have := (xL.1 hFO').2.2 (by rw [← o3]; exact hs)
    rw [← o2] at this
    exact absurd (eq_of_beq k3) this.2.2
  rw [Bool.or_eq_false_iff, Bool.eq_false_iff, Ne, zq, hlen] at k2
  exact fin (RL hFO' (by omega) (by rw [← o3]; exact hs))
 ·have hs : zJ a = true := by
   cases hs : zJ a with
   | true => rfl
   | false => unfold yZ at k3; rw [hs] at k3; cases k3
  have hdS : yZ a = zb a := by unfold yZ; rw [hs]; rfl
  rw [hdS] at k2 bad fin ⊢
  rw [Bool.or_eq_false_iff, Bool.eq_false_iff, Bool.eq_false_iff, Ne, Ne, zq, zq, hlen] at k2
  have e2 := U3 hFO' ⟨by omega, by rw [← o2]; omega⟩ (by rw [← o3]; exact hs)
  have g := (xL.1 hFO').2.2 (by rw [← o3]; exact hs)
  rw [← o2] at g e2
  obtain ⟨i1, i2⟩ := wD g.1
  have hi : Zy (zO a) = true := by
   have := c
   unfold Zn at this
   rw [Bool.and_eq_true] at this
   exact this.1
  have hE : zD (zO a) (zb a) = 0 := by
   have l2 := (wW (zb a)).1
   have q1 : ZQ (zO a) = 0 := yU.2 ⟨hi, by rw [o5]; omega⟩
   have q2 : ZQ (zb a) = 0 := yU.2 ⟨i1, by omega⟩
   unfold zD
   rw [q1, q2]; rfl
  have hg : yP (zO a) (zb a) = Nat.gcd (ze (zO (zR a))) (ze (zb a)) := by
   unfold yP
   rw [i2, Int.natAbs_natCast, ← Uj]
   rfl
  have hge := Jk (zO a)
  rw [hE]
  simp only [bne_self_eq_false, cond_false, Bool.false_or, s7, hg]
  refine ⟨by omega, by omega, zX.2 ⟨fun k4 => bad 11 (by decide) ?_, fun k4 => ?_⟩⟩
  ·rw [e2, show Nat.beq (Nat.gcd (ze (zO (zR a))) (ze (zb a))) 1 = false by rw [Bool.not_eq_true'] at k4; exact k4]; rfl
  ·exact fin (by rw [e2, show Nat.beq (Nat.gcd (ze (zO (zR a))) (ze (zb a))) 1 = true by rw [Bool.not_eq_false'] at k4; exact k4]; rfl)
theorem Lg {G : List (Nat × Obj)} (hG : zo G) (a : List UInt8) (hl : a.length ≤ 9223372036854775807) : zU Tryz.prog G 57 [.str a] (.tup 2 (zw [.agg 2 (zw [.str (bif zh a == 0 then zO a else []), .str (bif zh a == 0 then yZ a else [])]), .i (zh a)])) :=
 zW (T := Gy G) (an := .auto) mixed (Ol hG) (Eq.mp (by kernel_rfl) (lu G a hl))
theorem vN {G : List (Nat × Obj)} (hG : zo G) : zp Tryz.prog G 57 wz := by
 intro xs ps r h hp
 unfold wz at h
 split at h
 ·skip
  rename_i a
  cases h
  obtain ⟨q0, -⟩ := ZF hp
  exact weaken (ys := [.str a]) ⟨zT _, trivial⟩ (Lg hG a q0)
 ·cases h
theorem Ly (G : List (Nat × Obj)) (a : List UInt8) (hl : a.length ≤ 9223372036854775807) :
 Zt [AV.str a] → lN a ≤ nX ∧ kI ∧ zh a = zh a := by
 delta nX kI lN
 intro hb
 simp only [sS, dS, xt]
 exact hl
theorem iL {G : List (Nat × Obj)} (hG : zo G) (a : List UInt8) (hl : a.length ≤ 9223372036854775807) : zU Tryz.prog G 43 [.str a] (.i (zh a)) :=
 zW (T := (W2 G).plus 57 wz) (an := .auto) mixed (zz.plus zQ (vN hG)) (Eq.mp (by kernel_rfl) (Ly G a hl))
def Vy (a b : zj) : Int := bif zh a != 0 then zh a else bif zh b != 0 then zh b else bif Zm (zM a * (zP b : Int)) != 0 then Zm (zM a * (zP b : Int)) else Zm (zM b * (zP a : Int))
def qt (a b : zj) : Int := bif Vy a b == 0 then xS (zM a * (zP b : Int)) (zM b * (zP a : Int)) else 0
noncomputable def Ia (G : List (Nat × Obj)) : Tb := (((((W2 G).plus 57 wz).plus 55 VE).plus 78 vq).plus 59 rn).plus 56 Uo
theorem QV {G : List (Nat × Obj)} (hG : zo G) : zz Tryz.prog (Ia G) := zz.plus (zz.plus (zz.plus (zz.plus (zz.plus zQ (vN hG)) (zp.mono Si)) (UX hG)) (Mj hG)) (zp.mono pP)
noncomputable def Gk (G : List (Nat × Obj)) : Tb := (Ia G).body Tryz.prog [(58, .auto)]
theorem oz {G : List (Nat × Obj)} (hG : zo G) : zz Tryz.prog (Gk G) := zz.body mixed (QV hG) _
theorem L9 (G : List (Nat × Obj)) (a : List UInt8) (b : List UInt8) (hla : a.length ≤ 9223372036854775807) (hlb : b.length ≤ 9223372036854775807) :
 let q1 := ((bif Zz a then zM a else iZ) * bif Zz b then (cI (zP b)) else iZ); let q2 := ((bif Zz b then zM b else iZ) * bif Zz a then (cI (zP a)) else iZ); let q4 := (True ∧ kI ∧ iZ = qt a b); let q5 := (bif zh a == iZ then zO a else []); let q6 := (bif zh b == iZ then yZ b else []); let q7 := (Yd (fun (x1 x2 : Int) => x1 * x2) q5 q6 != iZ); let q8 := (bA #[]); let q9 := (bif zh b == iZ then zO b else []); let q10 := (bif zh a == (0 :
 Int) then yZ a else []); let q11 := (y5 (fun (x1 x2 : Int) => x1 * x2) q5 q6); let q12 := (y5 (fun (x1 x2 : Int) => x1 * x2) q9 q10); let q3 := (lN a ≤ nX ∧ zZ (zh a != iZ) (j2 ∧ q4 ∧ kI ∧ zh a = Vy a b) (lN b ≤ nX ∧ zZ (zh b != iZ) (j2 ∧ q4 ∧ kI ∧ zh b = Vy a b) (lN q5 ≤ nM ∧ lN q6 ≤ nM ∧ zZ q7 (zZ q7 (j2 ∧ q4 ∧ kI ∧ Yd
 (fun (x1 x2 : Int) => x1 * x2) q5 q6 = Vy a b) (0 ≤ nM ∧ 0 ≤ nM ∧ j2 ∧ (True ∧ kI ∧ yc q8 q8 = qt a b) ∧ kI ∧ zD q8 q8 = Vy a b)) (lN q9 ≤ nM ∧ lN q10 ≤ nM ∧ zZ (Yd (fun (x1 x2 : Int) => x1 * x2) q9 q10 != iZ) (j2 ∧ q4 ∧ kI ∧ Yd (fun (x1 x2 : Int) => x1 * x2) q9 q10 = Vy a b) (lN q11 ≤ nM ∧ lN q12 ≤ nM ∧ j2 ∧ (True ∧ kI ∧ yc q11
 q12 = qt a b) ∧ kI ∧ zD q11 q12 = Vy a b))))); Zt [AV.str a, AV.str b] → lN a ≤ nX ∧ zZ (Zz a) (lN b ≤ nX ∧ zZ (Zz b) (bF (dK q1) (bF (dK q2) (j2 ∧ (True ∧ kI ∧ xS q1 q2 = qt a b) ∧ kI ∧ iZ = Vy a b))) q3) q3 := by
 delta bF dK bA nX nM cI kI j2 lN iZ
 dsimp only
 intro hb
 simp only [sS, dS, xt]
 have ncd := vO a
 have ncb := vO b
 have dl : ∀ a : zj, zh a = 0 → (yZ a).length ≤ 301 := fun a h => by have := (Zq.1 h).2.2.1; unfold yZ; cases zJ a <;> simp <;> omega
 have eA : zh a ≠ 0 → 0 = qt a b ∧ zh a = Vy a b := fun h => by
  have e : Vy a b = zh a := by unfold Vy; rw [bne_iff_ne.2 h]; rfl
  unfold qt
  rw [e, beq_eq_false_iff_ne.2 h]
  exact ⟨rfl, rfl⟩
 have eB : zh a = 0 → zh b ≠ 0 → 0 = qt a b ∧ zh b = Vy a b := fun h0 h => by
  have e : Vy a b = zh b := by unfold Vy; rw [h0, bne_iff_ne.2 h]; rfl
  unfold qt
  rw [e, beq_eq_false_iff_ne.2 h]
  exact ⟨rfl, rfl⟩
 have eC : zh a = 0 → zh b = 0 → Zm (zM a * (zP b : Int)) ≠ 0 → 0 = qt a b ∧ Zm (zM a * (zP b : Int)) = Vy a b := fun h0 h1 h => by
  have e : Vy a b = Zm (zM a * (zP b : Int)) := by unfold Vy; rw [h0, h1, bne_iff_ne.2 h]; rfl
  unfold qt
  rw [e, beq_eq_false_iff_ne.2 h]
  exact ⟨rfl, rfl⟩
 have eD : zh a = 0 → zh b = 0 → Zm (zM a * (zP b : Int)) = 0 → Vy a b = Zm (zM b * (zP a : Int)) := fun h0 h1 h => by
  unfold Vy; rw [h0, h1, h]; rfl
 have big : zh a = 0 → zh b = 0 → _ := fun h0 h1 => And.intro (Gm h0 h1) (Gm h1 h0)
 refine ⟨hla, zX.2 ⟨fun c => ⟨hlb, zX.2 ⟨fun c2 => ?_, fun c2 => ?_⟩⟩, fun c => ?_⟩⟩
 ·obtain ⟨a1, a2, a3⟩ := yI c
  obtain ⟨b1, b2, b3⟩ := yI c2
  rw [c, c2]
  simp only [cond_true]
  have m1 : (zM a * (zP b : Int)).natAbs ≤ 99999999 * 99999999 := by rw [Int.natAbs_mul, Int.natAbs_natCast]; exact Nat.mul_le_mul a2 b3
  have m2 : (zM b * (zP a : Int)).natAbs ≤ 99999999 * 99999999 := by rw [Int.natAbs_mul, Int.natAbs_natCast]; exact Nat.mul_le_mul b2 a3
  obtain ⟨r1, r2⟩ := ZP (n := zM a * (zP b : Int)) (k := 20) (by omega) (by omega) (by omega)
  obtain ⟨r3, r4⟩ := ZP (n := zM b * (zP a : Int)) (k := 20) (by omega) (by omega) (by omega)
  have e := eD a1 b1 r2
  rw [r4] at e
  unfold qt
  rw [e]
  exact ⟨⟨by omega, by omega⟩, ⟨by omega, by omega⟩, rfl, rfl, rfl⟩
 all_goals
  refine ⟨hla, fun h => ⟨rfl, eA h⟩, fun h0 => ⟨hlb, fun h => ⟨rfl, eB h0 h⟩, fun h1 => ?_⟩⟩
  obtain ⟨⟨p1, p2⟩, p3, p4⟩ := big h0 h1
  have dla := dl a h0
  have dlb := dl b h1
  have nla := (Zq.1 h0).2.1
  have nlb := (Zq.1 h1).2.1
  have ll1 := (wW (zO a)).2
  have ll2 := (wW (zO b)).2
  rw [h0, h1]
  simp only [beq_self_eq_true, cond_true, p1, p2, p3, p4]
  refine ⟨by omega, by omega, fun h => ⟨fun _ => ⟨rfl, eC h0 h1 h⟩, fun h2 => absurd h2 h⟩, fun h => ⟨by omega, by omega, fun h2 => ?_, fun h2 => ?_⟩⟩
  ·have e := eD h0 h1 h
   unfold qt
   rw [e, beq_eq_false_iff_ne.2 h2]
   exact ⟨rfl, rfl, rfl⟩
  ·have e := eD h0 h1 h
   rw [h2] at e
   obtain ⟨q1, q2, q3, q4⟩ := Lh h h2
   unfold qt
   rw [e, q1, q2]
   exact ⟨q3, q4, rfl, rfl, rfl⟩
theorem iS {G : List (Nat × Obj)} (hG : zo G) (a : List UInt8) (b : List UInt8) (hla : a.length ≤ 9223372036854775807) (hlb : b.length ≤ 9223372036854775807) : zU Tryz.prog G 29 [.str a, .str b] (.tup 2 (zw [.i (qt a b), .i (Vy a b)])) :=
 zW (T := Gk G) (an := .auto) mixed (oz hG) (Eq.mp (by kernel_rfl) (L9 G a b hla hlb))
end Go.Te

namespace Go.Te
open Go Go.Sx Go.Proofs Go.Ar
set_option maxRecDepth 100000
set_option maxHeartbeats 4000000
structure Nt where
 n : Int
 d : Int
instance : zr Nt := ⟨2, ⟨0, 0⟩, fun c => zw [.i c.n, .i c.d], fun cs => ⟨AV.int (cs 0), AV.int (cs 1)⟩, fun cs => YA (cs 0) && YA (cs 1), fun cs h j hj => by
 simp only [Bool.and_eq_true] at h
 match j, hj with
 | 0, _ => exact ZS (Ue h.1)
 | 1, _ => exact ZS (Ue h.2)⟩
instance : YY Nt := ⟨fun _ => rfl, fun _ => rfl⟩
def Y5 (n d : Int) : zj := bif zg d 0 then ZW (-n) (-d).toNat else ZW n d.toNat
theorem Mv (n : Int) {d : Int} (hd : 0 < d) : Wv (if -n > n then -n else n) d = (Nat.gcd n.natAbs d.toNat : Int) := by
 have e : (if -n > n then -n else n) = (n.natAbs : Int) := by split <;> omega
 unfold Wv
 rw [e, (ZY _ _).2 (show (0 : Int) ≤ (n.natAbs : Int) by omega), (ZY _ _).2 (show 0 ≤ d by omega), Int.toNat_natCast]
 rfl
theorem PT (n : Int) {d : Int} (hd : 0 < d) : (0 : Int) < (Nat.gcd n.natAbs d.toNat : Int) ∧ n.tdiv (Nat.gcd n.natAbs d.toNat : Int) = n / (Nat.gcd n.natAbs d.toNat : Int) ∧ d.tdiv (Nat.gcd n.natAbs d.toNat : Int) = ((d.toNat / Nat.gcd n.natAbs d.toNat : Nat) : Int) ∧ (n / (Nat.gcd n.natAbs d.toNat : Int)).natAbs ≤ n.natAbs ∧ 0 < d.toNat / Nat.gcd n.natAbs d.toNat ∧ d.toNat / Nat.gcd n.natAbs d.toNat ≤ d.toNat := by
 have hg : 0 < Nat.gcd n.natAbs d.toNat := Nat.gcd_pos_of_pos_right _ (by omega)
 have hdv := Nat.gcd_dvd_right n.natAbs d.toNat
 have hnv : ((Nat.gcd n.natAbs d.toNat : Nat) : Int) ∣ n := Int.ofNat_dvd_left.2 (Nat.gcd_dvd_left _ _)
 generalize Nat.gcd n.natAbs d.toNat = g at *
 have e1 : n.tdiv (g : Int) = n / (g : Int) := Int.tdiv_eq_ediv_of_dvd hnv
 refine ⟨by omega, e1, ?_, ?_, Nat.div_pos (Nat.le_of_dvd (by omega) hdv) hg, Nat.div_le_self _ _⟩
 ·rw [Int.tdiv_eq_ediv_of_nonneg (by omega), Int.natCast_ediv]
  congr 1
  omega
 ·rw [← e1]; exact Int.natAbs_tdiv_le_natAbs n g
theorem RJ (n : Int) (d : Nat) : (d / Nat.gcd n.natAbs d = 1 → Lib.itoa (n / (Nat.gcd n.natAbs d : Int)) = ZW n d) ∧ (d / Nat.gcd n.natAbs d ≠ 1 → Lib.itoa (n / (Nat.gcd n.natAbs d : Int)) ++ [47] ++ Lib.itoa ((d / Nat.gcd n.natAbs d : Nat) : Int) = ZW n d) := by
 unfold ZW YM
 refine ⟨fun h => ?_, fun h => ?_⟩
 ·rw [h]
  exact (List.append_nil _).symm
 ·rw [show Nat.beq (d / Nat.gcd n.natAbs d) 1 = false from Bool.eq_false_iff.2 fun e => h (Nat.eq_of_beq_eq_true e), Go.Ar.Z8]
  simp
theorem Pn {n : Int} (h : n.natAbs < 10 ^ 20) : (Lib.itoa n).length ≤ 21 := by
 rw [x7]
 have : Xx n ≤ 20 := xK (by omega) h
 split <;> omega
def rq : List AV → Option (List zn × AV)
 | [.agg 2 p_x] => some ([.b (YA (p_x 0) && YA (p_x 1)), .p ((⟨AV.int (p_x 0), AV.int (p_x 1)⟩ : Nt).d ≠ 0), .p (-1000000000000000000 ≤ (⟨AV.int (p_x 0), AV.int (p_x 1)⟩ : Nt).d ∧ (⟨AV.int (p_x 0), AV.int (p_x 1)⟩ : Nt).d ≤ 1000000000000000000), .p (-1000000000000000000 ≤ (⟨AV.int (p_x 0), AV.int (p_x 1)⟩ : Nt).n ∧ (⟨AV.int (p_x 0), AV.int (p_x 1)⟩ : Nt).n ≤ 1000000000000000000)], .str (Y5 (⟨AV.int (p_x 0), AV.int (p_x 1)⟩ : Nt).n (⟨AV.int (p_x 0), AV.int (p_x 1)⟩ : Nt).d))
 | _ => none
theorem lE (G : List (Nat × Obj)) (x : Nt) (h0 : x.d ≠ 0) (h1 : -1000000000000000000 ≤ x.d ∧ x.d ≤ 1000000000000000000) (h2 : -1000000000000000000 ≤ x.n ∧ x.n ≤ 1000000000000000000) :
 let q1 := (if - -Nt.n x > -Nt.n x then - -Nt.n x else -Nt.n x); let q2 := (DB.db (Wv q1 (-Nt.d x) ≠ iZ)); let q4 := (Wv q1 (-Nt.d x)); let q3 := (Int.tdiv (-Nt.n x) q4); let q5 := (Int.tdiv (-Nt.d x) q4); let q6 := (iN ≤ Int.tdiv (-Nt.n x) q4 ∧ Int.tdiv (-Nt.n x) q4 ≤ iX); let q7 := (ByteArray.data (ByteArray.mk #[(47 : UInt8)])); let q8 := (if -Nt.n x > Nt.n x then -Nt.n x else Nt.n x); let q9 := (DB.db (Wv q8 (Nt.d x) ≠ iZ)); let q11 := (Wv q8 (Nt.d x)); let q10 := (Int.tdiv (Nt.n x) q11); let q12 := (Int.tdiv (Nt.d x)
 q11); let q13 := (iN ≤ Int.tdiv (Nt.n x) q11 ∧ Int.tdiv (Nt.n x) q11 ≤ iX); Zt [AV.agg 2 (zr.enc x)] → zZ (zg (Nt.d x) iZ) (bF (dK (-Nt.n x)) (bF (dK (-Nt.d x)) (bF (dK (- -Nt.n x)) (((iZ ≤ if - -Nt.n x > -Nt.n x then - -Nt.n x else -Nt.n x) ∧ q1 ≤ iX) ∧ (iZ ≤ -Nt.d x ∧ -Nt.d x ≤ iX) ∧ bF q2 (bF (dK q3) (bF q2 (bF (dK q5) (zZ (Int.tdiv (-Nt.d x) q4 == iO) (q6
 ∧ Lib.itoa q3 = Y5 (Nt.n x) (Nt.d x)) (q6 ∧ bF (DB.db (lN (Lib.itoa q3) + 1 ≤ nX)) ((iN ≤ Int.tdiv (-Nt.d x) q4 ∧ Int.tdiv (-Nt.d x) q4 ≤ iX) ∧ bF (DB.db (lN (Lib.itoa q3 ++ Array.toList q7) + lN (Lib.itoa q5) ≤ nX)) (Lib.itoa q3 ++ Array.toList q7 ++ Lib.itoa q5 = Y5 (Nt.n x) (Nt.d x)))))))))))) (bF (dK (-Nt.n x)) (((iZ ≤ if -Nt.n x > Nt.n x then -Nt.n x else Nt.n x) ∧ q8 ≤ (9223372036854775807 :
 Int)) ∧ (iZ ≤ Nt.d x ∧ Nt.d x ≤ iX) ∧ bF q9 (bF (dK q10) (bF q9 (bF (dK q12) (zZ (Int.tdiv (Nt.d x) q11 == iO) (q13 ∧ Lib.itoa q10 = Y5 (Nt.n x) (Nt.d x)) (q13 ∧ bF (DB.db (lN (Lib.itoa q10) + 1 ≤ nX)) ((iN ≤ Int.tdiv (Nt.d x) q11 ∧ Int.tdiv (Nt.d x) q11 ≤ iX) ∧ bF (DB.db (lN (Lib.itoa q10 ++ Array.toList q7) + lN (Lib.itoa q12) ≤ nX)) (Lib.itoa q10 ++ Array.toList q7 ++ Lib.itoa q12 = Y5
 (Nt.n x) (Nt.d x)))))))))) := by
 delta bF dK nX lN iZ iO iX iN
 dsimp only
 intro hb
 simp only [sS, dS]
 have key : ∀ n d : Int, 0 < d → d ≤ 1000000000000000000 → -1000000000000000000 ≤ n ∧ n ≤ 1000000000000000000 → _ := fun n d hd hd1 hn => And.intro (Mv n hd) (And.intro (PT n hd) (RJ n d.toNat))
 refine ⟨fun hd => ?_, fun hd => ?_⟩
 ·obtain ⟨k1, ⟨k2, k3, k4, k5, k6, k7⟩, k8, k9⟩ := key (-x.n) (-x.d) (by omega) (by omega) ⟨by omega, by omega⟩
  have hs : Y5 x.n x.d = ZW (-x.n) (-x.d).toNat := by unfold Y5; rw [(zq _ _).2 hd]; rfl
  rw [k1, k3, k4, hs]
  generalize ZW (-x.n) (-x.d).toNat = R at *
  generalize Nat.gcd (-x.n).natAbs (-x.d).toNat = g at *
  generalize (-x.n) / (g : Int) = q at *
  generalize (-x.d).toNat / g = e at *
  have l1 := Pn (n := q) (by omega)
  have l2 := Pn (n := (e : Int)) (by omega)
  refine ⟨⟨by omega, by omega⟩, ⟨by omega, by omega⟩, ⟨by omega, by omega⟩, ⟨by split <;> omega, by split <;> omega⟩, ⟨by omega, by omega⟩, by omega, ⟨by omega, by omega⟩, by omega, ⟨by omega, by omega⟩, fun h => ⟨⟨by omega, by omega⟩, k8 (by omega)⟩, fun h => ⟨⟨by omega, by omega⟩, by omega, ⟨by omega, by omega⟩, by rw [List.length_append, List.length_singleton]; omega, k9 (by omega)⟩⟩
 ·obtain ⟨k1, ⟨k2, k3, k4, k5, k6, k7⟩, k8, k9⟩ := key x.n x.d (by omega) (by omega) h2
  have hs : Y5 x.n x.d = ZW x.n x.d.toNat := by unfold Y5; rw [show zg x.d 0 = false from Bool.eq_false_iff.2 fun e => by have := (zq _ _).1 e; omega]; rfl
  rw [k1, k3, k4, hs]
  generalize ZW x.n x.d.toNat = R at *
  generalize Nat.gcd x.n.natAbs x.d.toNat = g at *
  generalize x.n / (g : Int) = q at *
  generalize hD : x.d.toNat / g = e at *
  have l1 := Pn (n := q) (by omega)
  have l2 := Pn (n := (e : Int)) (by omega)
  refine ⟨⟨by omega, by omega⟩, ⟨by split <;> omega, by split <;> omega⟩, ⟨by omega, by omega⟩, by omega, ⟨by omega, by omega⟩, by omega, ⟨by omega, by omega⟩, fun h => ⟨⟨by omega, by omega⟩, k8 (by omega)⟩, fun h => ⟨⟨by omega, by omega⟩, by omega, ⟨by omega, by omega⟩, by rw [List.length_append, List.length_singleton]; omega, k9 (by omega)⟩⟩
theorem jb {G : List (Nat × Obj)} (hG : zo G) (x : Nt) (h0 : x.d ≠ 0) (h1 : -1000000000000000000 ≤ x.d ∧ x.d ≤ 1000000000000000000) (h2 : -1000000000000000000 ≤ x.n ∧ x.n ≤ 1000000000000000000) : zU Tryz.prog G 101 [Yc x] (.str (Y5 x.n x.d)) :=
 zW (T := (NR G).plus 92 rU) (an := .auto) mixed (zz.plus (YZ hG) (zp.mono nt)) (Eq.mp (by kernel_rfl) (lE G x h0 h1 h2))
theorem mz {G : List (Nat × Obj)} (hG : zo G) : zp Tryz.prog G 101 rq := by
 intro xs ps r h hp
 unfold rq at h
 split at h
 ·skip
  rename_i p_x
  cases h
  obtain ⟨q0, q1, q2, q3, -⟩ := ZF hp
  exact weaken (ys := [Yc (⟨AV.int (p_x 0), AV.int (p_x 1)⟩ : Nt)]) ⟨ZT (x := .agg 2 p_x) (α := Nt) q0, trivial⟩ (jb hG (⟨AV.int (p_x 0), AV.int (p_x 1)⟩ : Nt) q1 q2 q3)
 ·cases h
def yK (s : zj) : zj := bif s == [48] then s else bif zL s then zR s else 45 :: s
def Qd : List AV → Option (List zn × AV)
 | [.str s] => some ([.p (s.length ≤ 4294967280)], .str (yK s))
 | _ => none
theorem Kf (s : List UInt8) (hl : s.length ≤ 4294967280) :
 Zt [AV.str s] → zZ (s == bA #[(48 : UInt8)]) (s = yK s) (zZ (zL s) (zR s = yK s) (bF (DB.db (1 + lN s ≤ nX)) (bA #[(45 : UInt8)] ++ s = yK s))) := by
 delta bF bA nX lN
 intro hb
 simp only [sS, dS]
 unfold yK
 refine zX.2 ⟨fun c => by rw [c]; rfl, fun c => zX.2 ⟨fun c2 => by rw [c, c2]; rfl, fun c2 => ⟨by omega, by rw [c, c2]; rfl⟩⟩⟩
theorem JF (s : List UInt8) (hl : s.length ≤ 4294967280) : zU Tryz.prog [] 114 [.str s] (.str (yK s)) :=
 zW (T := T0.plus 140 (Yk fun s => .tup 2 (zw [.str (zR s), .b (zL s)]))) (an := .auto) mixed (zz.plus zQ Qe) (Eq.mp (by kernel_rfl) (Kf s hl))
theorem IW : zp Tryz.prog [] 114 Qd := by
 intro xs ps r h hp
 unfold Qd at h
 split at h
 ·skip
  rename_i s
  cases h
  obtain ⟨q0, -⟩ := ZF hp
  exact weaken (ys := [.str s]) ⟨zT _, trivial⟩ (JF s q0)
 ·cases h
theorem qV {s : zj} (h : ZQ s = 0) : ZQ (yK s) = 0 ∧ zY (yK s) = -zY s ∧ (yK s).length ≤ 302 := by
 obtain ⟨h1, h2⟩ := yU.1 h
 have e : yK s = Lib.itoa (-zY s) := by
  unfold yK
  by_cases h0 : s = [48]
  ·subst h0
   show [48] = Lib.itoa ((0 : Nat) : Int)
   rw [Go.Ar.Z8, z8 (by omega)]; rfl
  rw [beq_eq_false_iff_ne.2 h0, cond_false]
  rcases yj h1 with ⟨r, rfl, g1, g2, g3⟩ | ⟨g1, g3⟩
  ·rw [g3, Int.neg_neg, Go.Ar.Z8, ZG g1]
   rfl
  ·have hm : zL s = false := by
    cases hm : zL s with
    | false => rfl
    | true =>
     match s, hm, g1 with
     | c :: r, hm, g1 =>
      have hc : c = 45 := eq_of_beq hm
      subst hc
      exact (wS g1).elim
   have hz : ze s ≠ 0 := fun hz => h0 (Vj g1 hz)
   rw [hm, cond_false, g3, Go.Ar.itoa_neg hz, ZG g1]
 have hl := (wW (yK s)).2
 have hE : ZQ (yK s) = 0 := by
  rw [e, YU]
  unfold Zm Xx
  rw [Int.natAbs_neg]
  rw [wY h1] at h2
  unfold Xx at h2
  rw [show Nat.blt 300 (Lib.nDigits (zY s).natAbs) = false from Bool.eq_false_iff.2 fun e => by have := (Zx _ _).1 e; omega]
  rfl
 exact ⟨hE, by rw [e, (zC _).2], by have := (yU.1 hE).2; omega⟩
theorem MJ {N : Int} {D : Nat} {n d : zj} (hn : n = Lib.itoa (N / (Nat.gcd N.natAbs D : Int))) (hd : d = Lib.itoa ((D / Nat.gcd N.natAbs D : Nat) : Int)) (ln : n.length ≤ 400) (ld : d.length ≤ 400) :
  zZ (d == [49]) (2 = [AV.junk, AV.junk].length ∧ n = ZW N D) (n.length + 1 ≤ 9223372036854775807 ∧ (n ++ [47]).length + d.length ≤ 9223372036854775807 ∧ 2 = [AV.junk, AV.junk].length ∧ n ++ [47] ++ d = ZW N D) := by
 obtain ⟨s1, s2⟩ := RJ N D
 have e := s7 (D / Nat.gcd N.natAbs D)
 rw [← hd] at e
 refine zX.2 ⟨fun c => ⟨rfl, ?_⟩, fun c => ⟨by omega, by rw [List.length_append, List.length_singleton]; omega, rfl, ?_⟩⟩
 ·rw [c] at e
  rw [hn]; exact s1 (Nat.eq_of_beq_eq_true e.symm)
 ·rw [c] at e
  rw [hn, hd]; exact s2 fun h => by rw [h] at e; cases e
theorem Je {n d : zj} (hn : ZQ n = 0) (hd : ZQ d = 0) (hp : 0 < zY d) : zD n d = 0 ∧ (Lib.itoa (yP n d : Int)).length ≤ 400 ∧ n.length ≤ 400 ∧ d.length ≤ 400 ∧
  zZ (!Lib.itoa (yP n d : Int) == [49])
   (zZ (Yw d (Lib.itoa (yP n d : Int)) == [49]) (2 = [AV.junk, AV.junk].length ∧ Yw n (Lib.itoa (yP n d : Int)) = ZW (zY n) (zY d).toNat)
    (List.length (Yw n (Lib.itoa (yP n d : Int))) + 1 ≤ 9223372036854775807 ∧ List.length (Yw n (Lib.itoa (yP n d : Int)) ++ [47]) + List.length (Yw d (Lib.itoa (yP n d : Int))) ≤ 9223372036854775807 ∧
     2 = [AV.junk, AV.junk].length ∧ Yw n (Lib.itoa (yP n d : Int)) ++ [47] ++ Yw d (Lib.itoa (yP n d : Int)) = ZW (zY n) (zY d).toNat))
   (zZ (d == [49]) (2 = [AV.junk, AV.junk].length ∧ n = ZW (zY n) (zY d).toNat) (n.length + 1 ≤ 9223372036854775807 ∧ (n ++ [47]).length + d.length ≤ 9223372036854775807 ∧ 2 = [AV.junk, AV.junk].length ∧ n ++ [47] ++ d = ZW (zY n) (zY d).toNat)) := by
 have hb : zD n d = 0 := by unfold zD; rw [hn, hd]; rfl
 obtain ⟨n1, n2, n3⟩ := yV hn
 obtain ⟨d1, d2, d3⟩ := yV hd
 have n4 := TP hn
 have d4 := TP hd
 have eD : (zY d).natAbs = (zY d).toNat := by omega
 have hg : yP n d = Nat.gcd (zY n).natAbs (zY d).toNat := by unfold yP; rw [eD]
 obtain ⟨g1, g2, g3, g4, g5, g6⟩ := PT (zY n) hp
 rw [← hg] at g1 g2 g3 g4 g5 g6
 have gl : yP n d ≤ (zY d).natAbs := by rw [hg, eD]; exact Nat.le_of_dvd (by omega) (Nat.gcd_dvd_right _ _)
 have gi : ZQ (Lib.itoa (yP n d : Int)) = 0 := by
  rw [YU]
  exact (ZP (n := (yP n d : Int)) (k := 300) (by omega) (by omega) (by rw [Int.natAbs_natCast]; omega)).2
 have lg := (yV gi).2.1
 have hz : (Lib.itoa (yP n d : Int) == [48]) = false := beq_eq_false_iff_ne.2 fun e => by
  have := (zC (yP n d : Int)).2
  rw [e] at this
  have h0 : zY [48] = 0 := by decide
  rw [h0] at this
  omega
 have dv : ∀ x : zj, ZQ x = 0 → Yw x (Lib.itoa (yP n d : Int)) = Lib.itoa (zY x / (yP n d : Int)) := fun x hx => by
  have e : Xy x (Lib.itoa (yP n d : Int)) = 0 := by
   unfold Xy zD
   rw [hx, gi, hz]; rfl
  rw [(qB e).1, (zC _).2, Int.fdiv_eq_ediv_of_nonneg _ (by omega)]
 have vd : zY d / (yP n d : Int) = (((zY d).toNat / yP n d : Nat) : Int) := by
  rw [Int.natCast_ediv]; congr 1; omega
 have qd := dv d hd
 rw [vd] at qd
 have ql : ∀ x : Int, x.natAbs < 10 ^ 300 → (Lib.itoa x).length ≤ 400 := fun x hx => by
  have := YU x
  rw [(ZP (n := x) (k := 300) (by omega) (by omega) hx).2] at this
  have := (yV this).2.1
  omega
 refine ⟨hb, by omega, by omega, by omega, zX.2 ⟨fun c => ?_, fun c => ?_⟩⟩
 ·refine MJ (by rw [dv n hn, hg]) (by rw [qd, hg]) ?_ ?_
  ·rw [dv n hn]; exact ql _ (by omega)
  ·rw [qd]; exact ql _ (by rw [Int.natAbs_natCast]; omega)
 ·rw [Bool.not_eq_false', s7] at c
  have c1 := Nat.eq_of_beq_eq_true c
  rw [hg] at c1
  refine MJ ?_ ?_ (by omega) (by omega)
  ·rw [c1]
   show n = Lib.itoa (zY n / 1)
   rw [Int.ediv_one, YG n3]
  ·rw [c1, Nat.div_one, show (((zY d).toNat : Nat) : Int) = zY d by omega, YG d3]
def VH : List AV → Option (List zn × AV)
 | [.str n, .str d] => some ([.p (ZQ n = 0), .p (ZQ d = 0), .p (zY d ≠ 0)], .tup 2 (zw [.str (Y5 (zY n) (zY d)), .i 0]))
 | _ => none
theorem KM (G : List (Nat × Obj)) (n : List UInt8) (d : List UInt8) (hn : ZQ n = 0) (hd : ZQ d = 0) (hp : zY d ≠ 0) :
 let q1 := (True ∧ bA #[] = Y5 (zY n) (zY d)); let q2 := (bif zD (yK n) (yK d) != iZ then [] else Lib.itoa (cI (yP (yK n) (yK d)))); let q3 := (ByteArray.data (ByteArray.mk #[(49 : UInt8)])); let q4 := (ByteArray.data (ByteArray.mk #[(47 : UInt8)])); let q5 := (bif zD n d != iZ then [] else Lib.itoa (cI (yP n d))); Zt [AV.str n, AV.str d] → zZ (zL d) (lN n ≤ nM ∧ lN d ≤ nM ∧ lN (yK n) ≤ nM ∧ lN (yK d) ≤ nM ∧ zZ (zD (yK n)
 (yK d) != iZ) (j2 ∧ q1 ∧ kI ∧ zD (yK n) (yK d) = iZ) (zZ (!q2 == Array.toList q3) (lN (yK n) ≤ nM ∧ lN q2 ≤ nM ∧ lN (yK d) ≤ nM ∧ lN q2 ≤ nM ∧ zZ (Yw (yK d) q2 == Array.toList q3) (j2 ∧ (True ∧ Yw (yK n) q2 = Y5 (zY n) (zY d)) ∧ kI ∧ iZ = iZ) (bF (DB.db (lN (Yw (yK n) q2) + 1 ≤ nX)) (bF (DB.db (lN (Yw (yK n) q2 ++
 Array.toList q4) + lN (Yw (yK d) q2) ≤ nX)) (j2 ∧ (True ∧ Yw (yK n) q2 ++ Array.toList q4 ++ Yw (yK d) q2 = Y5 (zY n) (zY d)) ∧ kI ∧ iZ = iZ)))) (zZ (yK d == Array.toList q3) (j2 ∧ (True ∧ yK n = Y5 (zY n) (zY d)) ∧ kI ∧ iZ = iZ) (bF (DB.db (lN (yK n) + 1 ≤ nX)) (bF (DB.db (lN (yK n ++ Array.toList q4) + lN (yK d) ≤ nX)) (2 =
 lN [AV.junk, AV.junk] ∧ (True ∧ yK n ++ Array.toList q4 ++ yK d = Y5 (zY n) (zY d)) ∧ kI ∧ iZ = iZ)))))) (lN n ≤ nM ∧ lN d ≤ nM ∧ zZ (zD n d != iZ) (j2 ∧ q1 ∧ kI ∧ zD n d = iZ) (zZ (!q5 == Array.toList q3) (lN n ≤ nM ∧ lN q5 ≤ nM ∧ lN d ≤ nM ∧ lN q5 ≤ nM ∧ zZ (Yw d q5 == Array.toList q3) (j2 ∧ (True ∧ Yw n q5 = Y5 (zY
 n) (zY d)) ∧ kI ∧ iZ = iZ) (bF (DB.db (lN (Yw n q5) + 1 ≤ nX)) (bF (DB.db (lN (Yw n q5 ++ Array.toList q4) + lN (Yw d q5) ≤ nX)) (j2 ∧ (True ∧ Yw n q5 ++ Array.toList q4 ++ Yw d q5 = Y5 (zY n) (zY d)) ∧ kI ∧ iZ = iZ)))) (zZ (d == Array.toList q3) (j2 ∧ (True ∧ n = Y5 (zY n) (zY d)) ∧ kI ∧ iZ = iZ) (bF (DB.db (lN n + 1 ≤
 nX)) (bF (DB.db (lN (n ++ Array.toList q4) + lN d ≤ nX)) (j2 ∧ (True ∧ n ++ Array.toList q4 ++ d = Y5 (zY n) (zY d)) ∧ kI ∧ iZ = iZ)))))) := by
 delta bF bA nX nM cI kI j2 lN iZ
 dsimp only
 intro hb
 simp only [sS, dS]
 have key : ∀ n d : zj, ZQ n = 0 → ZQ d = 0 → 0 < zY d → _ := fun n d h1 h2 h3 => Je h1 h2 h3
 refine zX.2 ⟨fun c => ?_, fun c => ?_⟩
 ·obtain ⟨o1, o2, o3⟩ := qV hn
  obtain ⟨p1, p2, p3⟩ := qV hd
  have hneg : zY d < 0 := by
   match d, c with
   | x :: r, c =>
    have hx : x = 45 := eq_of_beq c
    subst hx
    have : zY (45 :: r) = -(ze r : Int) := rfl
    omega
  have hs : Y5 (zY n) (zY d) = ZW (zY (yK n)) (zY (yK d)).toNat := by unfold Y5; rw [(zq _ _).2 hneg, o2, p2]; rfl
  obtain ⟨k1, k2, k3, k4, k5⟩ := key (yK n) (yK d) o1 p1 (by omega)
  obtain ⟨_, n2, _⟩ := yV hn
  obtain ⟨_, d2, _⟩ := yV hd
  rw [k1, hs]
  refine ⟨by omega, by omega, by omega, by omega, fun h => absurd rfl h, fun _ => ?_⟩
  refine zX.2 ⟨fun c => ⟨by omega, Nat.le_trans k2 (by decide), by omega, Nat.le_trans k2 (by decide), ?_⟩, fun c => ?_⟩
  ·exact (zX.1 k5).1 c
  ·exact (zX.1 k5).2 c
 ·have hpos : 0 < zY d := by
   obtain ⟨d1, _⟩ := yU.1 hd
   rcases yj d1 with ⟨r, rfl, _⟩ | ⟨g1, g3⟩
   ·cases c
   ·omega
  have hs : Y5 (zY n) (zY d) = ZW (zY n) (zY d).toNat := by unfold Y5; rw [show zg (zY d) 0 = false from Bool.eq_false_iff.2 fun e => by have := (zq _ _).1 e; omega]; rfl
  obtain ⟨k1, k2, k3, k4, k5⟩ := key n d hn hd hpos
  rw [k1, hs]
  refine ⟨by omega, by omega, fun h => absurd rfl h, fun _ => ?_⟩
  refine zX.2 ⟨fun c => ⟨by omega, Nat.le_trans k2 (by decide), by omega, Nat.le_trans k2 (by decide), ?_⟩, fun c => ?_⟩
  ·exact (zX.1 k5).1 c
  ·exact (zX.1 k5).2 c
theorem jj {G : List (Nat × Obj)} (hG : zo G) (n : List UInt8) (d : List UInt8) (hn : ZQ n = 0) (hd : ZQ d = 0) (hp : zY d ≠ 0) : zU Tryz.prog G 79 [.str n, .str d] (.tup 2 (zw [.str (Y5 (zY n) (zY d)), .i 0])) :=
 zW (T := ((((W2 G).plus 44 (Yk fun s => .b (zL s))).plus 96 SO).plus 115 sF).plus 114 Qd) (an := .auto) mixed (zz.plus (zz.plus (zz.plus (zz.plus zQ (zp.mono SI)) (nU hG)) (MA hG)) (zp.mono IW)) (Eq.mp (by kernel_rfl) (KM G n d hn hd hp))
theorem SD {G : List (Nat × Obj)} (hG : zo G) : zp Tryz.prog G 79 VH := by
 intro xs ps r h hp
 unfold VH at h
 split at h
 ·skip
  rename_i n d
  cases h
  obtain ⟨q0, q1, q2, -⟩ := ZF hp
  exact weaken (ys := [.str n, .str d]) ⟨zT _, zT _, trivial⟩ (jj hG n d q0 q1 q2)
 ·cases h
end Go.Te

namespace Go.Te
open Go Go.Sx Go.Proofs Go.Ar
set_option maxRecDepth 100000
set_option maxHeartbeats 4000000
structure Pt where
 n : zj
 d : zj
instance : zr Pt := ⟨2, ⟨[], []⟩, fun c => zw [.str c.n, .str c.d], fun cs => ⟨AV.bytes (cs 0), AV.bytes (cs 1)⟩, fun cs => ZM (cs 0) && ZM (cs 1), fun cs h j hj => by
 simp only [Bool.and_eq_true] at h
 match j, hj with
 | 0, _ => exact ZS (XT h.1)
 | 1, _ => exact ZS (XT h.2)⟩
instance : YY Pt := ⟨fun _ => rfl, fun _ => rfl⟩
def jK (k : Nat) : AV → Bool
 | .fn (.func k') 0 _ 0 _ => Nat.beq k' k
 | _ => false
theorem M3 {k : Nat} {x : AV} (h : jK k x = true) : zE x (iJ k) := by
 unfold jK at h
 split at h
 ·obtain rfl := Nat.eq_of_beq_eq_true h
  exact ⟨rfl, rfl, rfl, xA, xA⟩
 ·cases h
def te (x : Nt) : Prop := (-99999999 ≤ x.n ∧ x.n ≤ 99999999) ∧ (0 < x.d ∧ x.d ≤ 99999999)
theorem YS {a b : Int} (ha : -99999999 ≤ a ∧ a ≤ 99999999) (hb : -99999999 ≤ b ∧ b ≤ 99999999) : -10000000000000000 ≤ a * b ∧ a * b ≤ 10000000000000000 := by
 have h : (a * b).natAbs ≤ 99999999 * 99999999 := by rw [Int.natAbs_mul]; exact Nat.mul_le_mul (by omega) (by omega)
 omega
def nC : List AV → Option (List zn × AV)
 | [.agg 2 p_x, .agg 2 p_y] => some ([.b (YA (p_x 0) && YA (p_x 1)), .b (YA (p_y 0) && YA (p_y 1)), .p (te (⟨AV.int (p_x 0), AV.int (p_x 1)⟩ : Nt)), .p (te (⟨AV.int (p_y 0), AV.int (p_y 1)⟩ : Nt))], Yc (⟨(⟨AV.int (p_x 0), AV.int (p_x 1)⟩ : Nt).n * (⟨AV.int (p_y 0), AV.int (p_y 1)⟩ : Nt).d + (⟨AV.int (p_y 0), AV.int (p_y 1)⟩ : Nt).n * (⟨AV.int (p_x 0), AV.int (p_x 1)⟩ : Nt).d, (⟨AV.int (p_x 0), AV.int (p_x 1)⟩ : Nt).d * (⟨AV.int (p_y 0), AV.int (p_y 1)⟩ : Nt).d⟩ : Nt))
 | _ => none
theorem jC (x : Nt) (y : Nt) (h1 : te x) (h2 : te y) :
 Zt [AV.agg 2 (zr.enc x), AV.agg 2 (zr.enc y)] → bF (dK (Nt.n x * Nt.d y)) (bF (dK (Nt.n y * Nt.d x)) (bF (dK (Nt.n x * Nt.d y + Nt.n y * Nt.d x)) (bF (dK (Nt.d x * Nt.d y)) (2 = 2 ∧ (kI ∧ Nt.n x * Nt.d y + Nt.n y * Nt.d x = Nt.n (Nt.mk (Nt.n x * Nt.d y + Nt.n y * Nt.d x) (Nt.d x * Nt.d y))) ∧ kI ∧ Nt.d x * Nt.d y = Nt.d (Nt.mk (Nt.n x * Nt.d y + Nt.n y * Nt.d x) (Nt.d x * Nt.d y)))))) := by
 delta bF dK kI
 intro hb
 simp only [sS, dS]
 unfold te at h1 h2
 have m1 := YS (a := x.n) (b := y.d) h1.1 ⟨by omega, h2.2.2⟩
 have m2 := YS (a := y.n) (b := x.d) h2.1 ⟨by omega, h1.2.2⟩
 have m3 := YS (a := x.d) (b := y.d) ⟨by omega, h1.2.2⟩ ⟨by omega, h2.2.2⟩
 exact ⟨⟨by omega, by omega⟩, ⟨by omega, by omega⟩, ⟨by omega, by omega⟩, ⟨by omega, by omega⟩⟩
theorem Ij (x : Nt) (y : Nt) (h1 : te x) (h2 : te y) : zU Tryz.prog [] 61 [Yc x, Yc y] (Yc (⟨x.n * y.d + y.n * x.d, x.d * y.d⟩ : Nt)) :=
 zW (T := T0) (an := .auto) mixed zQ (Eq.mp (by kernel_rfl) (jC x y h1 h2))
theorem Hg : zp Tryz.prog [] 61 nC := by
 intro xs ps r h hp
 unfold nC at h
 split at h
 ·skip
  rename_i p_x p_y
  cases h
  obtain ⟨q0, q1, q2, q3, -⟩ := ZF hp
  exact weaken (ys := [Yc (⟨AV.int (p_x 0), AV.int (p_x 1)⟩ : Nt), Yc (⟨AV.int (p_y 0), AV.int (p_y 1)⟩ : Nt)]) ⟨ZT (x := .agg 2 p_x) (α := Nt) q0, ZT (x := .agg 2 p_y) (α := Nt) q1, trivial⟩ (Ij (⟨AV.int (p_x 0), AV.int (p_x 1)⟩ : Nt) (⟨AV.int (p_y 0), AV.int (p_y 1)⟩ : Nt) q2 q3)
 ·cases h
def NQ : List AV → Option (List zn × AV)
 | [.agg 2 p_x, .agg 2 p_y] => some ([.b (YA (p_x 0) && YA (p_x 1)), .b (YA (p_y 0) && YA (p_y 1)), .p (te (⟨AV.int (p_x 0), AV.int (p_x 1)⟩ : Nt)), .p (te (⟨AV.int (p_y 0), AV.int (p_y 1)⟩ : Nt))], Yc (⟨(⟨AV.int (p_x 0), AV.int (p_x 1)⟩ : Nt).n * (⟨AV.int (p_y 0), AV.int (p_y 1)⟩ : Nt).n, (⟨AV.int (p_x 0), AV.int (p_x 1)⟩ : Nt).d * (⟨AV.int (p_y 0), AV.int (p_y 1)⟩ : Nt).d⟩ : Nt))
 | _ => none
theorem iP (x : Nt) (y : Nt) (h1 : te x) (h2 : te y) :
 Zt [AV.agg 2 (zr.enc x), AV.agg 2 (zr.enc y)] → bF (dK (Nt.n x * Nt.n y)) (bF (dK (Nt.d x * Nt.d y)) (2 = 2 ∧ (kI ∧ Nt.n x * Nt.n y = Nt.n (Nt.mk (Nt.n x * Nt.n y) (Nt.d x * Nt.d y))) ∧ kI ∧ Nt.d x * Nt.d y = Nt.d (Nt.mk (Nt.n x * Nt.n y) (Nt.d x * Nt.d y)))) := by
 delta bF dK kI
 intro hb
 simp only [sS, dS]
 unfold te at h1 h2
 have m1 := YS (a := x.n) (b := y.n) h1.1 ⟨by omega, h2.1.2⟩
 have m2 := YS (a := y.n) (b := x.d) h2.1 ⟨by omega, h1.2.2⟩
 have m3 := YS (a := x.d) (b := y.d) ⟨by omega, h1.2.2⟩ ⟨by omega, h2.2.2⟩
 exact ⟨⟨by omega, by omega⟩, ⟨by omega, by omega⟩⟩
theorem HG (x : Nt) (y : Nt) (h1 : te x) (h2 : te y) : zU Tryz.prog [] 76 [Yc x, Yc y] (Yc (⟨x.n * y.n, x.d * y.d⟩ : Nt)) :=
 zW (T := T0) (an := .auto) mixed zQ (Eq.mp (by kernel_rfl) (iP x y h1 h2))
theorem Hm : zp Tryz.prog [] 76 NQ := by
 intro xs ps r h hp
 unfold NQ at h
 split at h
 ·skip
  rename_i p_x p_y
  cases h
  obtain ⟨q0, q1, q2, q3, -⟩ := ZF hp
  exact weaken (ys := [Yc (⟨AV.int (p_x 0), AV.int (p_x 1)⟩ : Nt), Yc (⟨AV.int (p_y 0), AV.int (p_y 1)⟩ : Nt)]) ⟨ZT (x := .agg 2 p_x) (α := Nt) q0, ZT (x := .agg 2 p_y) (α := Nt) q1, trivial⟩ (HG (⟨AV.int (p_x 0), AV.int (p_x 1)⟩ : Nt) (⟨AV.int (p_y 0), AV.int (p_y 1)⟩ : Nt) q2 q3)
 ·cases h
def VG (f : Int → Int → Int) (x y : Pt) : Int :=
 bif Zm (zY x.n * zY y.d) != 0 then Zm (zY x.n * zY y.d) else bif Zm (zY y.n * zY x.d) != 0 then Zm (zY y.n * zY x.d)
 else bif Zm (f (zY x.n * zY y.d) (zY y.n * zY x.d)) != 0 then Zm (f (zY x.n * zY y.d) (zY y.n * zY x.d)) else Zm (zY x.d * zY y.d)
def qU (f : Int → Int → Int) (x y : Pt) : zj := bif VG f x y == 0 then Y5 (f (zY x.n * zY y.d) (zY y.n * zY x.d)) (zY x.d * zY y.d) else []
def t8 (x : Pt) : Prop := ZQ x.n = 0 ∧ ZQ x.d = 0 ∧ zY x.d ≠ 0
theorem wQ {f : Int → Int → Int} {a b : zj} (ha : ZQ a = 0) (hb : ZQ b = 0) : Yd f a b = Zm (f (zY a) (zY b)) ∧ y5 f a b = YL (f (zY a) (zY b)) := by
 have hE : zD a b = 0 := by unfold zD; rw [ha, hb]; rfl
 obtain ⟨e1, e2⟩ := uv (f := f) hE
 exact ⟨e2, e1⟩
theorem wC {n : Int} (h : Zm n = 0) : ZQ (YL n) = 0 ∧ zY (YL n) = n ∧ (YL n).length ≤ 400 := by
 have e : YL n = Lib.itoa n := by unfold YL; rw [h]; rfl
 have hi : ZQ (Lib.itoa n) = 0 := by rw [YU, h]
 rw [e]
 exact ⟨hi, (zC n).2, by have := (yV hi).2.1; omega⟩
theorem ij {f : Int → Int → Int} {x y : Pt} (h1 : t8 x) (h2 : t8 y) :
 x.n.length ≤ 4294967280 ∧ y.d.length ≤ 4294967280 ∧
  (Yd (fun x1 x2 => x1 * x2) x.n y.d ≠ 0 →
   (Yd (fun x1 x2 => x1 * x2) x.n y.d ≠ 0 → 2 = [AV.junk, AV.junk].length ∧ [] = qU f x y ∧ Yd (fun x1 x2 => x1 * x2) x.n y.d = VG f x y) ∧
   (Yd (fun x1 x2 => x1 * x2) x.n y.d = 0 → 2 = [AV.junk, AV.junk].length ∧ [] = qU f x y ∧ Yd f [] [] = VG f x y)) ∧
  (Yd (fun x1 x2 => x1 * x2) x.n y.d = 0 → y.n.length ≤ 4294967280 ∧ x.d.length ≤ 4294967280 ∧
   (Yd (fun x1 x2 => x1 * x2) y.n x.d ≠ 0 → 2 = [AV.junk, AV.junk].length ∧ [] = qU f x y ∧ Yd (fun x1 x2 => x1 * x2) y.n x.d = VG f x y) ∧
   (Yd (fun x1 x2 => x1 * x2) y.n x.d = 0 → (y5 (fun x1 x2 => x1 * x2) x.n y.d).length ≤ 4294967280 ∧ (y5 (fun x1 x2 => x1 * x2) y.n x.d).length ≤ 4294967280 ∧
    (Yd f (y5 (fun x1 x2 => x1 * x2) x.n y.d) (y5 (fun x1 x2 => x1 * x2) y.n x.d) ≠ 0 → 2 = [AV.junk, AV.junk].length ∧ [] = qU f x y ∧ Yd f (y5 (fun x1 x2 => x1 * x2) x.n y.d) (y5 (fun x1 x2 => x1 * x2) y.n x.d) = VG f x y) ∧
    (Yd f (y5 (fun x1 x2 => x1 * x2) x.n y.d) (y5 (fun x1 x2 => x1 * x2) y.n x.d) = 0 → x.d.length ≤ 4294967280 ∧ y.d.length ≤ 4294967280 ∧
     (Yd (fun x1 x2 => x1 * x2) x.d y.d ≠ 0 → 2 = [AV.junk, AV.junk].length ∧ [] = qU f x y ∧ Yd (fun x1 x2 => x1 * x2) x.d y.d = VG f x y) ∧
     (Yd (fun x1 x2 => x1 * x2) x.d y.d = 0 → ZQ (y5 f (y5 (fun x1 x2 => x1 * x2) x.n y.d) (y5 (fun x1 x2 => x1 * x2) y.n x.d)) = 0 ∧ ZQ (y5 (fun x1 x2 => x1 * x2) x.d y.d) = 0 ∧ zY (y5 (fun x1 x2 => x1 * x2) x.d y.d) ≠ 0 ∧
      2 = [AV.junk, AV.junk].length ∧ Y5 (zY (y5 f (y5 (fun x1 x2 => x1 * x2) x.n y.d) (y5 (fun x1 x2 => x1 * x2) y.n x.d))) (zY (y5 (fun x1 x2 => x1 * x2) x.d y.d)) = qU f x y ∧ 0 = VG f x y)))) := by
 obtain ⟨a1, a2, a3⟩ := h1
 obtain ⟨b1, b2, b3⟩ := h2
 have l1 := (yV a1).2.1
 have l2 := (yV a2).2.1
 have l3 := (yV b1).2.1
 have l4 := (yV b2).2.1
 obtain ⟨p1, p2⟩ := wQ (f := fun x1 x2 => x1 * x2) a1 b2
 obtain ⟨p3, p4⟩ := wQ (f := fun x1 x2 => x1 * x2) b1 a2
 obtain ⟨p5, p6⟩ := wQ (f := fun x1 x2 => x1 * x2) a2 b2
 have bad : ∀ e : Int, e ≠ 0 → e = VG f x y → 2 = [AV.junk, AV.junk].length ∧ [] = qU f x y ∧ e = VG f x y := fun e h0 h => ⟨rfl, by unfold qU; rw [← h, beq_eq_false_iff_ne.2 h0]; rfl, h⟩
 rw [p1, p2, p3, p4, p5, p6]
 refine ⟨by omega, by omega, fun h => ⟨fun _ => bad _ h ?_, fun h0 => absurd h0 h⟩, fun g1 => ⟨by omega, by omega, fun h => bad _ h ?_, fun g2 => ?_⟩⟩
 ·unfold VG; rw [bne_iff_ne.2 h]; rfl
 ·unfold VG; rw [g1, bne_iff_ne.2 h]; rfl
 obtain ⟨r1, r2, r3⟩ := wC g1
 obtain ⟨r4, r5, r6⟩ := wC g2
 obtain ⟨p7, p8⟩ := wQ (f := f) r1 r4
 rw [r2, r5] at p7 p8
 rw [p7, p8]
 refine ⟨by omega, by omega, fun h => bad _ h ?_, fun g3 => ⟨by omega, by omega, fun h => bad _ h ?_, fun g4 => ?_⟩⟩
 ·unfold VG; rw [g1, g2, bne_iff_ne.2 h]; rfl
 ·unfold VG; rw [g1, g2, g3]; rfl
 obtain ⟨s1, s2, s3⟩ := wC g3
 obtain ⟨s4, s5, s6⟩ := wC g4
 have e : VG f x y = 0 := by unfold VG; rw [g1, g2, g3, g4]; rfl
 rw [s2, s5]
 exact ⟨s1, s4, Int.mul_ne_zero a3 b3, rfl, by unfold qU; rw [e]; rfl, e.symm⟩
noncomputable def Gv (G : List (Nat × Obj)) : Tb := (((((W2 G).plus 78 vq).plus 64 Ut).plus 118 sA).plus 79 VH).body Tryz.prog [(58, .auto)]
theorem ov {G : List (Nat × Obj)} (hG : zo G) : zz Tryz.prog (Gv G) := zz.body mixed (zz.plus (zz.plus (zz.plus (zz.plus zQ (UX hG)) (Qt hG)) (nS hG)) (SD hG)) _
def Ms : List AV → Option (List zn × AV)
 | [.agg 2 p_x, .agg 2 p_y, .xq 1 c_cf 0] => some ([.b (ZM (p_x 0) && ZM (p_x 1)), .b (ZM (p_y 0) && ZM (p_y 1)), .b (jK 64 (c_cf 0)), .p (t8 (⟨AV.bytes (p_x 0), AV.bytes (p_x 1)⟩ : Pt)), .p (t8 (⟨AV.bytes (p_y 0), AV.bytes (p_y 1)⟩ : Pt))], .tup 2 (zw [.str (qU (· + ·) (⟨AV.bytes (p_x 0), AV.bytes (p_x 1)⟩ : Pt) (⟨AV.bytes (p_y 0), AV.bytes (p_y 1)⟩ : Pt)), .i (VG (· + ·) (⟨AV.bytes (p_x 0), AV.bytes (p_x 1)⟩ : Pt) (⟨AV.bytes (p_y 0), AV.bytes (p_y 1)⟩ : Pt))]))
 | _ => none
theorem Jj (G : List (Nat × Obj)) (x : Pt) (y : Pt) (h1 : t8 x) (h2 : t8 y) :
 let q1 := (Yd (fun (x1 x2 : Int) => x1 * x2) (Pt.n x) (Pt.d y) != iZ); let q2 := (True ∧ bA #[] = qU (fun (x1 x2 : Int) => x1 + x2) x y); let q3 := (bA #[]); let q4 := (y5 (fun (x1 x2 : Int) => x1 * x2) (Pt.n x) (Pt.d y)); let q5 := (y5 (fun (x1 x2 : Int) => x1 * x2) (Pt.n y) (Pt.d x)); let q6 := (y5 (fun (x1 x2 : Int) => x1 + x2) q4 q5); let q7 := (y5 (fun (x1 x2 : Int) => x1 * x2) (Pt.d x) (Pt.d y)); Zt [AV.agg 2 (zr.enc x), AV.agg 2 (zr.enc y), AV.xq 1 (fun (x : Nat) => AV.fn (Fn.func (64 :
 FuncId)) 0 (fun (x : Nat) => AV.junk) 0 fun (x : Nat) => AV.junk) 0] → lN (Pt.n x) ≤ nM ∧ lN (Pt.d y) ≤ nM ∧ zZ q1 (zZ q1 (j2 ∧ q2 ∧ kI ∧ Yd (fun (x1 x2 : Int) => x1 * x2) (Pt.n x) (Pt.d y) = VG (fun (x1 x2 : Int) => x1 + x2) x y) (0 ≤ nM ∧ 0 ≤ nM ∧ j2 ∧ q2 ∧ kI ∧ Yd (fun (x1 x2 : Int) => x1 + x2) q3 q3 = VG (fun (x1 x2 : Int) => x1 + x2) x y)) (lN (Pt.n y) ≤ nM ∧ lN (Pt.d x) ≤ nM ∧ zZ (Yd (fun (x1 x2
 : Int) => x1 * x2) (Pt.n y) (Pt.d x) != iZ) (j2 ∧ q2 ∧ kI ∧ Yd (fun (x1 x2 : Int) => x1 * x2) (Pt.n y) (Pt.d x) = VG (fun (x1 x2 : Int) => x1 + x2) x y) (lN q4 ≤ nM ∧ lN q5 ≤ nM ∧ zZ (Yd (fun (x1 x2 : Int) => x1 + x2) q4 q5 != iZ) (j2 ∧ q2 ∧ kI ∧ Yd (fun (x1 x2 : Int) => x1 + x2) q4 q5 = VG (fun (x1 x2 : Int) => x1 + x2) x y) (lN (Pt.d x) ≤ nM ∧ lN (Pt.d y) ≤ nM ∧ zZ (Yd (fun (x1 x2 : Int) => x1 * x2)
 (Pt.d x) (Pt.d y) != iZ) (j2 ∧ q2 ∧ kI ∧ Yd (fun (x1 x2 : Int) => x1 * x2) (Pt.d x) (Pt.d y) = VG (fun (x1 x2 : Int) => x1 + x2) x y) (ZQ q6 = iZ ∧ ZQ q7 = iZ ∧ zY q7 ≠ iZ ∧ j2 ∧ (True ∧ Y5 (zY q6) (zY q7) = qU (fun (x1 x2 : Int) => x1 + x2) x y) ∧ kI ∧ iZ = VG (fun (x1 x2 : Int) => x1 + x2) x y)))) := by
 delta bA nM kI j2 lN iZ
 dsimp only
 intro hb
 simp only [sS, dS]
 exact ij h1 h2
theorem HS {G : List (Nat × Obj)} (hG : zo G) (x : Pt) (y : Pt) (h1 : t8 x) (h2 : t8 y) : zU Tryz.prog G 102 [Yc x, Yc y, .xq 1 (fun _ => iJ 64) 0] (.tup 2 (zw [.str (qU (· + ·) x y), .i (VG (· + ·) x y)])) :=
 zW (T := Gv G) (an := .auto) mixed (ov hG) (Eq.mp (by kernel_rfl) (Jj G x y h1 h2))
theorem Hk {G : List (Nat × Obj)} (hG : zo G) : zp Tryz.prog G 102 Ms := by
 intro xs ps r h hp
 unfold Ms at h
 split at h
 ·skip
  rename_i p_x p_y c_cf
  cases h
  obtain ⟨q0, q1, q2, q3, q4, -⟩ := ZF hp
  exact weaken (ys := [Yc (⟨AV.bytes (p_x 0), AV.bytes (p_x 1)⟩ : Pt), Yc (⟨AV.bytes (p_y 0), AV.bytes (p_y 1)⟩ : Pt), .xq 1 (fun _ => iJ 64) 0]) ⟨ZT (x := .agg 2 p_x) (α := Pt) q0, ZT (x := .agg 2 p_y) (α := Pt) q1, ⟨rfl, rfl, M3 q2⟩, trivial⟩ (HS hG (⟨AV.bytes (p_x 0), AV.bytes (p_x 1)⟩ : Pt) (⟨AV.bytes (p_y 0), AV.bytes (p_y 1)⟩ : Pt) q3 q4)
 ·cases h
def qu (x y : Pt) : Int := bif Zm (zY x.n * zY y.n) != 0 then Zm (zY x.n * zY y.n) else Zm (zY x.d * zY y.d)
def lI (x y : Pt) : zj := bif qu x y == 0 then Y5 (zY x.n * zY y.n) (zY x.d * zY y.d) else []
def My : List AV → Option (List zn × AV)
 | [.agg 2 p_x, .agg 2 p_y] => some ([.b (ZM (p_x 0) && ZM (p_x 1)), .b (ZM (p_y 0) && ZM (p_y 1)), .p (t8 (⟨AV.bytes (p_x 0), AV.bytes (p_x 1)⟩ : Pt)), .p (t8 (⟨AV.bytes (p_y 0), AV.bytes (p_y 1)⟩ : Pt))], .tup 2 (zw [.str (lI (⟨AV.bytes (p_x 0), AV.bytes (p_x 1)⟩ : Pt) (⟨AV.bytes (p_y 0), AV.bytes (p_y 1)⟩ : Pt)), .i (qu (⟨AV.bytes (p_x 0), AV.bytes (p_x 1)⟩ : Pt) (⟨AV.bytes (p_y 0), AV.bytes (p_y 1)⟩ : Pt))]))
 | _ => none
theorem J8 (G : List (Nat × Obj)) (x : Pt) (y : Pt) (h1 : t8 x) (h2 : t8 y) :
 let q1 := (True ∧ bA #[] = lI x y); let q2 := (y5 (fun (x1 x2 : Int) => x1 * x2) (Pt.n x) (Pt.n y)); let q3 := (y5 (fun (x1 x2 : Int) => x1 * x2) (Pt.d x) (Pt.d y)); Zt [AV.agg 2 (zr.enc x), AV.agg 2 (zr.enc y)] → lN (Pt.n x) ≤ nM ∧ lN (Pt.n y) ≤ nM ∧ zZ (Yd (fun (x1 x2 : Int) => x1 * x2) (Pt.n x) (Pt.n y) != iZ) (j2 ∧ q1 ∧ kI ∧ Yd (fun (x1 x2 : Int) => x1 * x2) (Pt.n x) (Pt.n y) = qu x y) (lN (Pt.d x) ≤ nM ∧ lN (Pt.d y) ≤
 nM ∧ zZ (Yd (fun (x1 x2 : Int) => x1 * x2) (Pt.d x) (Pt.d y) != iZ) (j2 ∧ q1 ∧ kI ∧ Yd (fun (x1 x2 : Int) => x1 * x2) (Pt.d x) (Pt.d y) = qu x y) (ZQ q2 = iZ ∧ ZQ q3 = iZ ∧ zY q3 ≠ iZ ∧ j2 ∧ (True ∧ Y5 (zY q2) (zY q3) = lI x y) ∧ kI ∧ iZ = qu x y)) := by
 delta bA nM kI j2 lN iZ
 dsimp only
 intro hb
 simp only [sS, dS]
 obtain ⟨a1, a2, a3⟩ := h1
 obtain ⟨b1, b2, b3⟩ := h2
 have l1 := (yV a1).2.1
 have l2 := (yV a2).2.1
 have l3 := (yV b1).2.1
 have l4 := (yV b2).2.1
 obtain ⟨p1, p2⟩ := wQ (f := fun x1 x2 => x1 * x2) a1 b1
 obtain ⟨p5, p6⟩ := wQ (f := fun x1 x2 => x1 * x2) a2 b2
 have bad : ∀ e : Int, e ≠ 0 → e = qu x y → 2 = [AV.junk, AV.junk].length ∧ [] = lI x y ∧ e = qu x y := fun e h0 h => ⟨rfl, by unfold lI; rw [← h, beq_eq_false_iff_ne.2 h0]; rfl, h⟩
 rw [p1, p2, p5, p6]
 refine ⟨by omega, by omega, fun h => bad _ h ?_, fun g1 => ⟨by omega, by omega, fun h => bad _ h ?_, fun g4 => ?_⟩⟩
 ·unfold qu; rw [bne_iff_ne.2 h]; rfl
 ·unfold qu; rw [g1]; rfl
 obtain ⟨s1, s2, s3⟩ := wC g1
 obtain ⟨s4, s5, s6⟩ := wC g4
 have e : qu x y = 0 := by unfold qu; rw [g1, g4]; rfl
 rw [s2, s5]
 exact ⟨s1, s4, Int.mul_ne_zero a3 b3, rfl, by unfold lI; rw [e]; rfl, e.symm⟩
theorem Hv {G : List (Nat × Obj)} (hG : zo G) (x : Pt) (y : Pt) (h1 : t8 x) (h2 : t8 y) : zU Tryz.prog G 77 [Yc x, Yc y] (.tup 2 (zw [.str (lI x y), .i (qu x y)])) :=
 zW (T := ((W2 G).plus 78 vq).plus 79 VH) (an := .auto) mixed (zz.plus (zz.plus zQ (UX hG)) (SD hG)) (Eq.mp (by kernel_rfl) (J8 G x y h1 h2))
theorem IG {G : List (Nat × Obj)} (hG : zo G) : zp Tryz.prog G 77 My := by
 intro xs ps r h hp
 unfold My at h
 split at h
 ·skip
  rename_i p_x p_y
  cases h
  obtain ⟨q0, q1, q2, q3, -⟩ := ZF hp
  exact weaken (ys := [Yc (⟨AV.bytes (p_x 0), AV.bytes (p_x 1)⟩ : Pt), Yc (⟨AV.bytes (p_y 0), AV.bytes (p_y 1)⟩ : Pt)]) ⟨ZT (x := .agg 2 p_x) (α := Pt) q0, ZT (x := .agg 2 p_y) (α := Pt) q1, trivial⟩ (Hv hG (⟨AV.bytes (p_x 0), AV.bytes (p_x 1)⟩ : Pt) (⟨AV.bytes (p_y 0), AV.bytes (p_y 1)⟩ : Pt) q2 q3)
 ·cases h
end Go.Te
