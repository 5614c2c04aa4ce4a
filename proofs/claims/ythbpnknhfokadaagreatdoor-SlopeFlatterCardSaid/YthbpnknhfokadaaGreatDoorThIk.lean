/- integer: Divide, Gcd. -/
import Derived.Test.YthbpnknhfokadaaGreatDoorThIi
set_option linter.unusedSimpArgs false
set_option linter.unusedVariables false
namespace Go.Te
open Go Go.Sx Go.Proofs Go.Ar
set_option maxRecDepth 100000
set_option maxHeartbeats 4000000
theorem Mr (m t : Bool) {A B q r : Int} (hB : 0 < B) (h : r + B * q = bif !(m == t) then -A else A) (h0 : 0 ≤ r) (h1 : r < B) :
  Int.fdiv (bif m then -A else A) (bif t then -B else B) = q ∧ Int.fmod (bif m then -A else A) (bif t then -B else B) = bif t then -r else r := by
 cases t with
 | false =>
  refine SL ?_ (.inl ⟨hB, h0, h1⟩)
  cases m <;> simpa using h
 | true =>
  refine SL ?_ (.inr ⟨by simp; omega, by simp; omega, by simp; omega⟩)
  cases m <;> simp [Int.neg_mul] at h ⊢ <;> omega
theorem wB (n : Bool) (k : Nat) : yB n (zT 1000000000 k) = bif n then -(k : Int) else k := by unfold yB; rw [xL]
theorem N5 {a b : zj} (h : Xy a b ≠ 0) : Yw a b = [] ∧ VO a b = [] := by
 unfold Yw VO
 rw [beq_eq_false_iff_ne.2 h]
 exact ⟨rfl, rfl⟩
theorem Q3 {a b : zj} (h : Xy a b = 0) : Yw a b = Lib.itoa (Int.fdiv (zY a) (zY b)) ∧ VO a b = Lib.itoa (Int.fmod (zY a) (zY b)) := by
 unfold Yw VO
 rw [h]
 exact ⟨rfl, rfl⟩
theorem Ta {a : zj} (h : ZQ a = 0) : (zY a).natAbs < 10 ^ 300 := by
 obtain ⟨h1, h2⟩ := yt.1 h
 rw [wR h1] at h2
 exact (Zw (k := 300) (u := (zY a).natAbs) (by omega)).1 h2
theorem Il {b : zj} (h : ZY b = true) (h0 : b ≠ [48]) : zY b ≠ 0 := fun e => h0 (by
 rw [← YG h, e]
 have : Lib.itoa ((0 : Nat) : Int) = [48] := by rw [Go.Ar.yY, z7 (by omega)]; rfl
 exact this)
theorem RF {a : zj} (h : ZY a = true) : (bif zk a then -((zY a).natAbs : Int) else ((zY a).natAbs : Int)) = zY a := by
 have := xV h
 rw [wB] at this
 exact this
theorem my (l : List Int) : yR (AV.agg 2 (zw [AV.v ((Value.agg #[Value.bool false, Value.slice none 0 0]).cells.getD 0 undef), AV.xl false 1 l.length fun i j => AV.v (Value.int IntKind.i64 (l.getD i 0))])) = (⟨false, l⟩ : Big) := xd false l
theorem pr (l : List Int) : yp Big (AV.agg 2 (zw [AV.v ((Value.agg #[Value.bool false, Value.slice none 0 0]).cells.getD 0 undef), AV.xl false 1 l.length fun i j => AV.v (Value.int IntKind.i64 (l.getD i 0))])) = true := Ya false l
def rV : List AV → Option (List zN × AV)
 | [.str a, .str b] => some ([.p (a.length ≤ 4294967280), .p (b.length ≤ 4294967280)], .tup 3 (zw [.str (Yw a b), .str (VO a b), .i (Xy a b)]))
 | _ => none
theorem l5 (G : List (Nat × Obj)) (a : List UInt8) (b : List UInt8) (hla : a.length ≤ 4294967280) (hlb : b.length ≤ 4294967280) :
 let q1 := ((True ∧ bA #[] = Yw a b) ∧ bA #[] = VO a b); let q3 := (bif leB (lZ a) (18 : Int) && leB (lZ b) (18 : Int) then zY b else iZ); let q2 := (DB.db (q3 ≠ iZ)); let q5 := (bif leB (lZ a) (18 : Int) && leB (lZ b) (18 : Int) then zY a else iZ); let q4 := (Int.tdiv q5 q3); let q7 := (Int.tmod q5 q3 != iZ); let q6 := (!zr true q7 || zr true q7); let q8 := (Int.tmod q5 q3); let q9 := (Int.tdiv q5 q3 -
 iO); let q10 := (Int.tmod q5 q3 + bif leB (lZ a) (18 : Int) && leB (lZ b) (18 : Int) then zY b else iZ); let q12 := (zT 1000000000 (Int.natAbs (zY a))); let q11 := (xI q12); let q15 := (zT 1000000000 (Int.natAbs (zY b))); let q14 := (xI q15); let q13 := (z6 Int q14); let q16 := (zt q11); let q18 := (zt q14); let q17 := (∀ (x : Int), List.Mem x q18 → (0 :
 Int) ≤ x ∧ x < iB); let q19 := (!zr true !zk a == zk b || zr true !zk a == zk b); let q22 := (zU iB q16); let q23 := (zU iB q18); let q21 := (zT 1000000000 (Int.toNat q22 % Int.toNat q23)); let q20 := (lN q21); let q26 := (zT 1000000000 (Int.toNat q22 / Int.toNat q23)); let q25 := (lN q26); let q24 := (AV.xl false 1 q25 fun i j => aI (gD q26 i zR.dflt)); let q27 := (zt q24); let q28 := (zt (AV.xl true 1 1 (Sx.rowAt [fun (x : Nat) => aI iO]))); let
 q29 := (AV.xl false 1 q20 fun i j => aI (gD q21 i zR.dflt)); let q30 := (zt q29); let q32 := (zT 1000000000 (Int.toNat (zU iB q27 + zU iB q28))); let q31 := (AV.agg 2 (zw [AV.v (Value.bool !zk a == zk b), xI q32])); let q35 := (yR q31); let q34 := (Big.l q35); let q37 := (zT 1000000000 (Int.toNat (zU iB q18 - zU iB q30))); let q36 := (AV.agg 2 (zw [AV.v (Value.bool (zk b)), AV.xl false 1
 (lN q37) fun i j => aI (gD q37 i zR.dflt)])); let q39 := (yR q36); let q38 := (Big.l q39); let q41 := (yB (Big.neg q35) q34); let q40 := (Zl q41 != iZ); let q42 := (yB (Big.neg q39) q38); let q43 := (3 = lN [AV.junk, AV.junk, AV.junk] ∧ q1 ∧ kI ∧ (4 : Int) = Xy a b); let q44 := (AV.agg 2 (zw [AV.v (Value.bool !zk a == zk b), AV.xl false 1 q25 fun i j => aI (gD q26 i zR.dflt)])); let q46 := (yR q44); let q45 := (Big.l q46); let q47 := (AV.agg 2 (zw [AV.v (Value.bool (zk b)),
 AV.xl false 1 q20 fun i j => aI (gD q21 i zR.dflt)])); let V6 := (yR q47); let q48 := (Big.l V6); let q51 := (yB (Big.neg q46) q45); let q50 := (Zl q51 != iZ); let q52 := (yB (Big.neg V6) q48); Zy [AV.str a, AV.str b] → lN a ≤ nM ∧ lN b ≤ nM ∧ zZ (zc a b != iZ) (3 = lN [AV.junk, AV.junk, AV.junk] ∧ q1 ∧ kI ∧ zc a b = Xy a b) (zZ (b == bA #[(48 : UInt8)]) (3 = lN [AV.junk, AV.junk, AV.junk] ∧ q1 ∧ kI ∧
 (12 : Int) = Xy a b) (ZY a = true ∧ ZY b = true ∧ (18 : Int) = (18 : Int) ∧ zZ (leB (lZ a) (18 : Int) && leB (lZ b) (18 : Int)) (bF q2 (bF (dK q4) (bF q2 (bF q6 (bF q6 (bF q6 (bF q6 (bF (!Int.tmod q5 q3 != iZ || zr true q7) (zZ (bif Int.tmod q5 q3 != iZ then !zG q8 iZ == zG q3 iZ else false) (bF (dK q9) (bF (dK q10) ((iN ≤ Int.tdiv q5 q3 - iO ∧ Int.tdiv q5 q3 - iO ≤ iX)
 ∧ ((iN ≤ Int.tmod q5 q3 + bif leB (lZ a) (18 : Int) && leB (lZ b) (18 : Int) then zY b else iZ) ∧ q10 ≤ iX) ∧ 3 = lN [AV.junk, AV.junk, AV.junk] ∧ ((True ∧ Lib.itoa q9 = Yw a b) ∧ Lib.itoa q10 = VO a b) ∧ kI ∧ iZ = Xy a b))) ((iN ≤ Int.tdiv q5 q3 ∧ Int.tdiv q5 q3 ≤ iX) ∧ (iN ≤ Int.tmod q5 q3 ∧ Int.tmod q5 q3 ≤ iX) ∧ 3 = lN [AV.junk, AV.junk,
 AV.junk] ∧ ((True ∧ Lib.itoa q4 = Yw a b) ∧ Lib.itoa q8 = VO a b) ∧ kI ∧ iZ = Xy a b)))))))))) (ZY a = true ∧ lN a ≤ 100000000 ∧ ZY b = true ∧ lN b ≤ 100000000 ∧ bF (z6 Int q11) (bF q13 ((∀ (x : Int), List.Mem x q16 → iZ ≤ x ∧ x < iB) ∧ q17 ∧ zh q16 = zt q11 ∧ zh q18 = zt q14 ∧ lN q18 ≠ 0 ∧ lN q16 ≤ 100000000 ∧ lN q18 ≤ 100000000 ∧ bF q19 (bF q19 (bF (!!zk a == zk b || zr true !zk a == zk b) (zZ
 (bif !zk a == zk b then zG iZ (cI q20) else false) (bF (z6 Int q24) ((∀ (x : Int), List.Mem x q27 → iZ ≤ x ∧ x < iB) ∧ (∀ (x : Int), List.Mem x (zt (AV.xl true 1 1 (Sx.rowAt [fun (x : Nat) => aI iO]))) → iZ ≤ x ∧ x < iB) ∧ lN q27 ≤ 1000000000 ∧ lN q28 ≤ 1000000000 ∧ bF q13 (bF (z6 Int q29) (q17 ∧ (∀ (x : Int), List.Mem x q30 → iZ ≤ x ∧ x < iB) ∧ lN q18 ≤ 1000000000 ∧ lN q30 ≤ 1000000000 ∧ zU iB q30 ≤ zU
 iB q18 ∧ bF (yp Big q31) ((∀ (x : Int), let q33 := (zT 1000000000 (Int.toNat (zU iB q27 + zU iB (zt (AV.xl true 1 1 (Sx.rowAt [fun (x : Nat) => aI iO])))))); List.Mem x (Big.l (yR (AV.agg 2 (zw [AV.v (Value.bool !zk a == zk b), xI q33])))) → iZ ≤ x ∧ x < iB) ∧ zh q34 = Big.l q35 ∧ lN q34 ≤ 100000000 ∧ bF (yp Big q36) ((∀ (x : Int), List.Mem x q38 → iZ ≤ x ∧ x <
 iB) ∧ zh q38 = Big.l q39 ∧ lN q38 ≤ 100000000 ∧ bF (!zr false q40 || zr false q40) (bF (!!Zl q41 != iZ || zr false q40) (zZ (bif Zl q41 != iZ then true else Zl q42 != iZ) q43 (3 = lN [AV.junk, AV.junk, AV.junk] ∧ ((True ∧ YK q41 = Yw a b) ∧ YK q42 = VO a b) ∧ kI ∧ iZ = Xy a b))))))))) (bF (yp Big q44) ((∀ (x : Int), List.Mem x q45 → iZ ≤ x ∧ x < iB) ∧ zh q45 = Big.l q46 ∧ lN q45 ≤ 100000000 ∧ zZ
 (yp Big q47) ((∀ (x : Int), List.Mem x q48 → iZ ≤ x ∧ x < iB) ∧ zh q48 = Big.l V6 ∧ lN q48 ≤ 100000000 ∧ bF (!zr false q50 || zr false q50) (bF (!!Zl q51 != iZ || zr false q50) (zZ (bif Zl q51 != iZ then true else Zl q52 != iZ) q43 (3 = lN [AV.junk, AV.junk, AV.junk] ∧ ((True ∧ YK q51 = Yw a b) ∧ YK q52 = VO a b) ∧ kI ∧ iZ = Xy a b)))) False)))))))))) := by
 delta bF dK bA xI nM cI kI lZ lN gD iZ iO iX iN iB aI
 dsimp only
 intro hb
 have e0 : (zR.dflt : Int) = 0 := rfl
 simp only [↓yU, ↓ZF, row_one]
 simp only [sS, dS, e0, Xs, xW, xd, Ya, wP, XU, X9, x9, XB, K7, xL, K1, my, pr]
 refine ⟨by omega, by omega, fun hE => ?_, fun hE => zX.2 ⟨fun c0 => ?_, fun c0 => ?_⟩⟩
 ·have e : Xy a b = zc a b := by unfold Xy; rw [bne_iff_ne.2 hE]; rfl
  obtain ⟨d1, d2⟩ := N5 (a := a) (b := b) (by rw [e]; exact hE)
  exact ⟨rfl, ⟨d1.symm, d2.symm⟩, e.symm⟩
 ·have e : Xy a b = 12 := by unfold Xy; rw [hE, c0]; rfl
  obtain ⟨d1, d2⟩ := N5 (a := a) (b := b) (by rw [e]; decide)
  exact ⟨rfl, ⟨d1.symm, d2.symm⟩, e.symm⟩
 have e : Xy a b = 0 := by unfold Xy; rw [hE, c0]; rfl
 obtain ⟨d1, d2⟩ := Q3 e
 obtain ⟨hA, hB⟩ := xZ hE
 obtain ⟨a1, a2, a3⟩ := yV hA
 obtain ⟨b1, b2, b3⟩ := yV hB
 have a4 := Ta hA
 have b4 := Ta hB
 have hv := Il b3 (beq_eq_false_iff_ne.1 c0)
 rw [d1, d2, e]
 refine ⟨a3, b3, zX.2 ⟨fun c => ?_, fun c => ?_⟩⟩
 ·rw [c]
  rw [Bool.and_eq_true] at c
  have x1 := jM a3 c.1
  have x2 := jM b3 c.2
  simp only [cond_true]
  obtain ⟨f1, f2, f3, f4⟩ := mY (a := zY a) (b := zY b) hv
  refine ⟨hv, ⟨by omega, by omega⟩, hv, zX.2 ⟨fun cc => ?_, fun cc => ?_⟩⟩
  ·obtain ⟨g1, g2⟩ := f1 cc
   rw [g1, g2]
   exact ⟨⟨by omega, by omega⟩, ⟨by omega, by omega⟩, ⟨by omega, by omega⟩, ⟨by omega, by omega⟩, rfl, ⟨rfl, rfl⟩, trivial⟩
  ·obtain ⟨g1, g2⟩ := f2 cc
   rw [g1, g2]
   exact ⟨⟨by omega, by omega⟩, ⟨by omega, by omega⟩, rfl, ⟨rfl, rfl⟩, trivial⟩
 have wa := RF a3
 have wb := RF b3
 have la := wG a1
 have lb := wG b1
 have hB0 : 0 < (zY b).natAbs := by omega
 have hdm := Nat.div_add_mod (zY a).natAbs (zY b).natAbs
 have hml := Nat.mod_lt (zY a).natAbs hB0
 have hdl : (zY a).natAbs / (zY b).natAbs ≤ (zY a).natAbs := Nat.div_le_self _ _
 have lb0 : (zT 1000000000 (zY b).natAbs).length ≠ 0 := fun e => by have := Xc (b := 1000000000) (by omega) e; omega
 have lq := yz (b := 1000000000) (by omega) hdl
 have lr := yz (b := 1000000000) (by omega) (Nat.le_of_lt hml)
 rw [← wa, ← wb]
 rw [show (bif zk a then -((zY a).natAbs : Int) else ((zY a).natAbs : Int)).natAbs = (zY a).natAbs from by rw [wa], show (bif zk b then -((zY b).natAbs : Int) else ((zY b).natAbs : Int)).natAbs = (zY b).natAbs from by rw [wb]]
 clear wa wb e d1 d2 hv a1 b1 c
 generalize hAA : (zY a).natAbs = A at *
 generalize hBB : (zY b).natAbs = B at *
 generalize zk a = m at *
 generalize zk b = t at *
 have hdmI : (B : Int) * ((A / B : Nat) : Int) + ((A % B : Nat) : Int) = (A : Int) := by exact_mod_cast hdm
 generalize A / B = Q at *
 generalize A % B = R at *
 refine ⟨a3, by omega, b3, by omega, (Zf _).1, (Zf _).1, (Zf _).2, (Zf _).2, lb0, by omega, by omega, zX.2 ⟨fun cc => ?_, fun cc => ?_⟩⟩
 ·rw [Bool.and_eq_true, zp] at cc
  have hr0 : R ≠ 0 := fun e => by have := cc.2; rw [e, Z2] at this; exact absurd this (by decide)
  have hB2 : 2 * Q ≤ B * Q := Nat.mul_le_mul_right _ (by omega)
  have eq : ((Q : Int) + 1).toNat = Q + 1 := by omega
  have er : ((B : Int) - (R : Int)).toNat = B - R := by omega
  obtain ⟨g1, g2⟩ := Mr m t (A := A) (B := B) (q := -((Q + 1 : Nat) : Int)) (r := ((B - R : Nat) : Int)) (by omega) (by
   rw [cc.1, cond_true, Int.mul_neg, Int.natCast_add, Int.mul_add]; omega) (by omega) (by omega)
  have lq2 := yz (b := 1000000000) (m := Q + 1) (n := A) (by omega) (by omega)
  have lr2 := yz (b := 1000000000) (m := B - R) (n := B) (by omega) (by omega)
  simp only [eq, er, wB]
  rw [g1, g2, cc.1, cond_true]
  obtain ⟨r1, r2⟩ := ZO (n := -((Q + 1 : Nat) : Int)) (k := 300) (by omega) (by omega) (by rw [Int.natAbs_neg, Int.natAbs_natCast]; omega)
  obtain ⟨r3, r4⟩ := ZO (n := bif t then -((B - R : Nat) : Int) else ((B - R : Nat) : Int)) (k := 300) (by omega) (by omega) (by cases t <;> simp only [cond_true, cond_false, Int.natAbs_neg, Int.natAbs_natCast] <;> omega)
  rw [r1, r2, r3, r4]
  have o1 : Zp 1000000000 [1] := .one (by omega) (by omega)
  refine ⟨(Zf _).1, o1, by omega, by simp, (Zf _).1, (Zf _).1, by omega, by omega, by omega, (Zf _).1, (Zf _).2, by omega, (Zf _).1, (Zf _).2, by omega, ?_⟩
  exact ⟨rfl, ⟨rfl, rfl⟩, trivial⟩
 ·have hq : Int.fdiv (bif m then -(A : Int) else (A : Int)) (bif t then -(B : Int) else (B : Int)) = (bif !(m == t) then -(Q : Int) else (Q : Int)) ∧
    Int.fmod (bif m then -(A : Int) else (A : Int)) (bif t then -(B : Int) else (B : Int)) = bif t then -(R : Int) else (R : Int) := by
   refine Mr m t (by omega) ?_ (by omega) (by omega)
   cases hs : !(m == t) with
   | false => simp only [cond_false]; omega
   | true =>
    rw [hs, Bool.true_and] at cc
    have hr0 : R = 0 := by
     refine Decidable.byContradiction fun hn => ?_
     have h1 : (zT 1000000000 R).length ≠ 0 := fun e => hn (Xc (b := 1000000000) (by omega) e)
     rw [(zp _ _).2 (by omega)] at cc
     cases cc
    rw [hr0] at hdmI ⊢
    simp only [cond_true, Int.mul_neg]
    omega
  obtain ⟨g1, g2⟩ := hq
  simp only [wB]
  rw [g1, g2]
  obtain ⟨r1, r2⟩ := ZO (n := bif !(m == t) then -(Q : Int) else (Q : Int)) (k := 300) (by omega) (by omega) (by cases !(m == t) <;> simp only [cond_true, cond_false, Int.natAbs_neg, Int.natAbs_natCast] <;> omega)
  obtain ⟨r3, r4⟩ := ZO (n := bif t then -(R : Int) else (R : Int)) (k := 300) (by omega) (by omega) (by cases t <;> simp only [cond_true, cond_false, Int.natAbs_neg, Int.natAbs_natCast] <;> omega)
  rw [r1, r2, r3, r4]
  exact ⟨(Zf _).1, (Zf _).2, by omega, (Zf _).1, (Zf _).2, by omega, rfl, ⟨rfl, rfl⟩, trivial⟩
theorem iq {G : List (Nat × Obj)} (hG : zO G) (a : List UInt8) (b : List UInt8) (hla : a.length ≤ 4294967280) (hlb : b.length ≤ 4294967280) : zu Tryz.prog G 115 [.str a, .str b] (.tup 3 (zw [.str (Yw a b), .str (VO a b), .i (Xy a b)])) :=
 zv (T := jd G) (an := .auto) mixed (x6 hG) (Eq.mp (by kernel_rfl) (l5 G a b hla hlb))
theorem mT {G : List (Nat × Obj)} (hG : zO G) : zP Tryz.prog G 115 rV := by
 intro xs ps r h hp
 unfold rV at h
 split at h
 ·skip
  rename_i a b
  cases h
  obtain ⟨q0, q1, -⟩ := Zo hp
  exact weaken (ys := [.str a, .str b]) ⟨zV _, zV _, trivial⟩ (iq hG a b q0 q1)
 ·cases h
structure wg where
 x : Int
 y : Int
structure VW where
 x : Nat
 y : Nat
def La (a b : zj) : yQ :=
 .two .auto (.two .auto (.two (.two .auto (.two .auto (.two (.two (.one (.loop wg (fun σ z => [(7, .i z.x), (8, .i z.y)]) (fun σ z => []) 0 (fun σ z => Nat.gcd z.x.natAbs z.y.natAbs = yN a b ∧ z.x.natAbs ≤ 1000000000000000000 ∧ z.y.natAbs ≤ 1000000000000000000) (fun σ z => z.y.natAbs) .auto)) .auto) .auto))) (.two .auto (.two (.one (.loop VW (fun σ z => [(10, ZA (zT 1000000000 z.x)), (11, ZA (zT 1000000000 z.y))]) (fun σ z => []) 0 (fun σ z => Nat.gcd z.x z.y = yN a b ∧ (zT 1000000000 z.x).length ≤ 100000000 ∧ (zT 1000000000 z.y).length ≤ 100000000) (fun σ z => z.y) .auto)) .auto))))
def S5 : List AV → Option (List zN × AV)
 | [.str a, .str b] => some ([.p (a.length ≤ 4294967280), .p (b.length ≤ 4294967280)], .tup 2 (zw [.str (bif zc a b != 0 then [] else Lib.itoa (yN a b : Int)), .i (zc a b)]))
 | _ => none
theorem kZ (G : List (Nat × Obj)) (a : List UInt8) (b : List UInt8) (hla : a.length ≤ 4294967280) (hlb : b.length ≤ 4294967280) :
 let q2 := (zT 1000000000 (Int.natAbs (zY a))); let q3 := (zT 1000000000 (Int.natAbs (zY b))); Zy [AV.str a, AV.str b] → lN a ≤ nM ∧ lN b ≤ nM ∧ zZ (zc a b != iZ) (j2 ∧ (True ∧ bA #[] = bif zc a b != iZ then [] else Lib.itoa (cI (yN a b))) ∧ kI ∧ zc a b = zc a b) (ZY a = true ∧ ZY b = true ∧ (18 : Int) = (18 : Int) ∧ zZ (leB (lZ a) (18 : Int) && leB (lZ b) (18 : Int)) ((∃ (z : wg),
 ((Nat.gcd (Int.natAbs (wg.x z)) (Int.natAbs (wg.y z)) = yN a b ∧ Int.natAbs (wg.x z) ≤ 1000000000000000000 ∧ Int.natAbs (wg.y z) ≤ 1000000000000000000) ∧ (kI ∧ (bif leB (lZ a) (18 : Int) && leB (lZ b) (18 : Int) then zY a else iZ) = wg.x z) ∧ kI ∧ (bif leB (lZ a) (18 : Int) && leB (lZ b) (18 : Int) then zY b else iZ) = wg.y z) ∧ True) ∧ ∀ (z : wg), let q1 := (if -wg.x z > wg.x z then -wg.x z else wg.x z); Nat.gcd (Int.natAbs (wg.x z)) (Int.natAbs (wg.y z)) =
 yN a b ∧ Int.natAbs (wg.x z) ≤ 1000000000000000000 ∧ Int.natAbs (wg.y z) ≤ 1000000000000000000 → zZ (wg.y z != iZ) (bF (DB.db (wg.y z ≠ iZ)) (∃ (z' : wg), (((Nat.gcd (Int.natAbs (wg.x z')) (Int.natAbs (wg.y z')) = yN a b ∧ Int.natAbs (wg.x z') ≤ 1000000000000000000 ∧ Int.natAbs (wg.y z') ≤ 1000000000000000000) ∧ Int.natAbs (wg.y z') < Int.natAbs (wg.y z)) ∧ (kI ∧ wg.y z = wg.x z') ∧ kI ∧ Int.tmod (wg.x z) (wg.y z) = wg.y z') ∧ True)) (bF (dK (-wg.x z)) (((iN ≤ if -wg.x z
 > wg.x z then -wg.x z else wg.x z) ∧ q1 ≤ iX) ∧ j2 ∧ (True ∧ Lib.itoa q1 = bif zc a b != iZ then [] else Lib.itoa (cI (yN a b))) ∧ kI ∧ iZ = zc a b))) (ZY a = true ∧ lN a ≤ 100000000 ∧ ZY b = true ∧ lN b ≤ 100000000 ∧ (∃ (z : VW), ((Nat.gcd (VW.x z) (VW.y z) = yN a b ∧ lN (zT 1000000000 (VW.x z)) ≤ 100000000 ∧ lN (zT 1000000000 (VW.y z)) ≤ 100000000) ∧ zd (AV.xl false 1 (lN q2) fun i j => aI (gD q2 i
 zR.dflt)) (xI (zT 1000000000 (VW.x z))) ∧ (false = true → false = true) ∧ 1 = 1 ∧ lN (zT 1000000000 (VW.y z)) = lN q3 ∧ ∀ (i j : Nat), i < lN q3 → j < 1 → kI ∧ gD q3 i zR.dflt = gD (zT 1000000000 (VW.y z)) i zR.dflt) ∧ True) ∧ ∀ (z : VW), let q4 := (lN (zT 1000000000 (VW.y z))); let q6 := (lN (zT 1000000000 (VW.x z))); let q5 := (AV.xl false 1 q6 fun i j => aI (List.getD
 (zT 1000000000 (VW.x z)) i zR.dflt)); let q7 := (AV.xl false 1 q4 fun i j => aI (gD (zT 1000000000 (VW.y z)) i zR.dflt)); let q8 := (zt q5); let q9 := (zt q7); let q10 := (zT 1000000000 (Int.toNat (zU iB q8) % Int.toNat (zU iB q9))); let q11 := (AV.agg 2 (zw [AV.v (Array.getD (Value.cells (Value.agg #[Value.bool false, Value.slice (X7 Addr) 0 0])) 0 undef), AV.xl false 1 q6 fun i j => aI (gD (zT 1000000000 (VW.x z)) i zR.dflt)])); let q13 := (yR q11); let q12 := (Big.l q13);
 let q14 := (yB (Big.neg q13) q12); Nat.gcd (VW.x z) (VW.y z) = yN a b ∧ lN (zT 1000000000 (VW.x z)) ≤ 100000000 ∧ lN (zT 1000000000 (VW.y z)) ≤ 100000000 → zZ (zG iZ (cI q4)) (bF (z6 Int q5) (bF (z6 Int q7) ((∀ (x : Int), List.Mem x q8 → iZ ≤ x ∧ x < iB) ∧ (∀ (x : Int), List.Mem x q9 → iZ ≤ x ∧ x < iB) ∧ zh q8 = zt q5 ∧ zh q9 = zt q7 ∧ lN q9 ≠ 0 ∧ lN q8 ≤ 100000000 ∧ lN q9 ≤ 100000000 ∧ ∃ (z' : VW), (((Nat.gcd (VW.x z') (VW.y z') = yN a b ∧
 lN (zT 1000000000 (VW.x z')) ≤ 100000000 ∧ lN (zT 1000000000 (VW.y z')) ≤ 100000000) ∧ VW.y z' < VW.y z) ∧ zd q7 (xI (zT 1000000000 (VW.x z'))) ∧ (false = true → false = true) ∧ 1 = 1 ∧ lN (zT 1000000000 (VW.y z')) = lN q10 ∧ ∀ (i j : Nat), i < lN q10 → j < 1 → kI ∧ gD q10 i zR.dflt = gD (zT 1000000000 (VW.y z')) i zR.dflt) ∧ True))) (bF (yp Big q11) ((∀ (x : Int),
 List.Mem x q12 → iZ ≤ x ∧ x < iB) ∧ zh q12 = Big.l q13 ∧ lN q12 ≤ 100000000 ∧ j2 ∧ (True ∧ YK q14 = bif zc a b != iZ then [] else Lib.itoa (cI (yN a b))) ∧ kI ∧ Zl q14 = zc a b)))) := by
 delta bF dK bA xI nM cI kI j2 lZ lN gD iZ iX iN iB aI
 dsimp only
 intro hb
 have e0 : (zR.dflt : Int) = 0 := rfl
 simp only [↓yU, ↓ZF, row_one]
 simp only [sS, dS, e0, Xs, xW, xd, Ya, wP, XU, X9, x9, XB, K7, xL, K1, my, pr]
 refine ⟨by omega, by omega, fun hE => ⟨rfl, by rw [bne_iff_ne.2 hE]; rfl⟩, fun hE => ?_⟩
 obtain ⟨hA, hB⟩ := xZ hE
 obtain ⟨a1, a2, a3⟩ := yV hA
 obtain ⟨b1, b2, b3⟩ := yV hB
 have la := wG a1
 have lb := wG b1
 have gl : yN a b ≤ (zY a).natAbs + (zY b).natAbs := by
  unfold yN
  by_cases h : (zY a).natAbs = 0
  ·rw [h, Nat.gcd_zero_left]; omega
  ·exact Nat.le_trans (Nat.le_of_dvd (by omega) (Nat.gcd_dvd_left _ _)) (by omega)
 have a4 := Ta hA
 have b4 := Ta hB
 have gl3 : yN a b < 10 ^ 300 := by
  unfold yN
  by_cases h : (zY a).natAbs = 0
  ·rw [h, Nat.gcd_zero_left]; exact b4
  ·exact Nat.lt_of_le_of_lt (Nat.le_of_dvd (by omega) (Nat.gcd_dvd_left _ _)) a4
 rw [hE]
 simp only [bne_self_eq_false, cond_false]
 refine ⟨a3, b3, zX.2 ⟨fun c => ?_, fun c => ?_⟩⟩
 ·rw [c]
  rw [Bool.and_eq_true] at c
  have x1 := jM a3 c.1
  have x2 := jM b3 c.2
  simp only [cond_true]
  refine ⟨⟨⟨zY a, zY b⟩, ⟨rfl, by simp only; omega, by simp only; omega⟩, rfl, rfl⟩, fun z ⟨z1, z2, z3⟩ => ⟨fun hy => ⟨hy, ⟨z.y, z.x.tmod z.y⟩, ⟨⟨?_, z3, ?_⟩, ?_⟩, rfl, rfl⟩, fun hy => ?_⟩⟩
  ·rw [Int.natAbs_tmod, ← UF (y := z.y.natAbs) (by omega), z1]
  ·rw [Int.natAbs_tmod]
   have : z.x.natAbs % z.y.natAbs ≤ z.x.natAbs := Nat.mod_le _ _
   omega
  ·rw [Int.natAbs_tmod]
   exact Nat.mod_lt _ (by omega)
  ·rw [hy, Int.natAbs_zero, Nat.gcd_zero_right] at z1
   rw [pY, z1]
   rw [z1] at z2
   exact ⟨⟨by omega, by omega⟩, ⟨by omega, by omega⟩, rfl, rfl, trivial⟩
 ·refine ⟨a3, by omega, b3, by omega, ⟨⟨(zY a).natAbs, (zY b).natAbs⟩, ⟨rfl, by simp only; omega, by simp only; omega⟩, zV _, fun h => h, rfl, fun _ _ _ _ => rfl⟩, fun z ⟨z1, z2, z3⟩ => ⟨fun hy => ?_, fun hy => ?_⟩⟩
  ·have hy0 : z.y ≠ 0 := fun e => by rw [e, Z2] at hy; exact absurd hy (by decide)
   have hm : z.x % z.y < z.y := Nat.mod_lt _ (by omega)
   have hlen := yz (b := 1000000000) (m := z.x % z.y) (n := z.y) (by omega) (by omega)
   exact ⟨(Zf _).1, (Zf _).1, (Zf _).2, (Zf _).2, by omega, z2, z3, ⟨z.y, z.x % z.y⟩, ⟨⟨by rw [← UF hy0]; exact z1, z3, by simp only; omega⟩, hm⟩, zV _, fun h => h, rfl, fun _ _ _ _ => rfl⟩
  ·have hy0 := Xc (b := 1000000000) (n := z.y) (by omega) (by omega)
   rw [hy0, Nat.gcd_zero_right] at z1
   rw [wB, cond_false, z1]
   rw [z1] at z2
   obtain ⟨r1, r2⟩ := ZO (n := (yN a b : Int)) (k := 300) (by omega) (by omega) (by rw [Int.natAbs_natCast]; exact gl3)
   rw [r1, r2]
   exact ⟨(Zf _).1, (Zf _).2, z2, rfl, rfl, rfl⟩
theorem IR {G : List (Nat × Obj)} (hG : zO G) (a : List UInt8) (b : List UInt8) (hla : a.length ≤ 4294967280) (hlb : b.length ≤ 4294967280) : zu Tryz.prog G 96 [.str a, .str b] (.tup 2 (zw [.str (bif zc a b != 0 then [] else Lib.itoa (yN a b : Int)), .i (zc a b)])) :=
 zv (T := jd G) (an := La a b) mixed (x6 hG) (Eq.mp (by kernel_rfl) (kZ G a b hla hlb))
theorem Mw {G : List (Nat × Obj)} (hG : zO G) : zP Tryz.prog G 96 S5 := by
 intro xs ps r h hp
 unfold S5 at h
 split at h
 ·skip
  rename_i a b
  cases h
  obtain ⟨q0, q1, -⟩ := Zo hp
  exact weaken (ys := [.str a, .str b]) ⟨zV _, zV _, trivial⟩ (IR hG a b q0 q1)
 ·cases h
end Go.Te

namespace Go.Te
open Go Go.Sx Go.Proofs Go.Ar
set_option maxRecDepth 100000
set_option maxHeartbeats 4000000
def yx (a : zj) : zj := bif zi a then zB a else [49]
theorem YT (n : Int) : ZQ (Lib.itoa n) = Zl n := by
 obtain ⟨h1, h2⟩ := zb n
 have h3 := wR h1
 rw [h2] at h3
 unfold ZQ Zl
 rw [h1, h3]
 rfl
theorem lQ {a : zj} (h : zH a = 0) : ZQ (zm a) = 0 ∧ ZQ (yx a) = 0 ∧ zY (zm a) = zK a ∧ zY (yx a) = (zn a : Int) := by
 obtain ⟨h1, h2, h3, _⟩ := Zq.1 h
 have hi : ZY (zm a) = true := by
  unfold ZM at h1
  rw [Bool.and_eq_true] at h1
  exact h1.1
 refine ⟨yt.2 ⟨hi, h2⟩, ?_, rfl, ?_⟩
 all_goals
  unfold yx
  cases hs : zi a with
  | false =>
   first
    | (show ZQ [49] = 0; exact yt.2 (by decide))
    | (unfold zn; rw [hs]; show zY [49] = ((1 : Nat) : Int); decide)
  | true =>
   unfold ZM at h1
   rw [hs] at h1
   have hd : Z8 (zB a) = true := by
    revert h1
    cases Z8 (zB a) <;> simp
   obtain ⟨i1, i2⟩ := wD hd
   first
    | exact yt.2 ⟨i1, Nat.le_trans (wM _).1 h3⟩
    | (unfold zn; rw [hs]; exact i2)
theorem IS (s : zj) : s.length ≤ (zQ s).length + 1 := by
 unfold zQ
 cases zk s with
 | true => rw [cond_true, List.length_drop]; omega
 | false => rw [cond_false]; omega
theorem rX (g : Nat) : (Lib.itoa (g : Int) == [49]) = Nat.beq g 1 := by
 rw [Go.Ar.yY, Bool.eq_iff_iff, beq_iff_eq, Nat.beq_eq]
 constructor
 ·intro h
  have := congrArg zD h
  rw [yZ] at this
  exact this
 ·intro h
  rw [h, z7 (by decide)]; rfl
theorem Gt {a b : zj} (ha : zH a = 0) (hb : zH b = 0) : Yc (fun x1 x2 => x1 * x2) (zm a) (yx b) = Zl (zK a * (zn b : Int)) ∧ y6 (fun x1 x2 => x1 * x2) (zm a) (yx b) = YK (zK a * (zn b : Int)) := by
 obtain ⟨a1, a2, a3, a4⟩ := lQ ha
 obtain ⟨b1, b2, b3, b4⟩ := lQ hb
 have hE : zc (zm a) (yx b) = 0 := by unfold zc; rw [a1, b2]; rfl
 obtain ⟨e1, e2⟩ := V5 (f := fun x1 x2 => x1 * x2) hE
 rw [a3, b4] at e1 e2
 exact ⟨e2, e1⟩
theorem KU {n m : Int} (hn : Zl n = 0) (hm : Zl m = 0) : yc (YK n) (YK m) = xM n m ∧ zc (YK n) (YK m) = 0 ∧ (YK n).length ≤ 4294967280 ∧ (YK m).length ≤ 4294967280 := by
 have e : ∀ k, Zl k = 0 → YK k = Lib.itoa k := fun k h => by unfold YK; rw [h]; rfl
 have l : ∀ k, Zl k = 0 → (Lib.itoa k).length ≤ 4294967280 := fun k h => by
  rw [Xw]
  have : ¬ 300 < XZ k := fun e => by unfold Zl at h; rw [(ZX _ _).2 e] at h; cases h
  split <;> omega
 rw [e n hn, e m hm]
 have hE : zc (Lib.itoa n) (Lib.itoa m) = 0 := by
  unfold zc
  rw [YT, hn, YT, hm]
  rfl
 refine ⟨?_, hE, l n hn, l m hm⟩
 unfold yc
 rw [hE, (zb n).2, (zb m).2]
 rfl
theorem yh {a : zj} (h : z8 a = true) : zH a = 0 ∧ (zK a).natAbs ≤ 99999999 ∧ zn a ≤ 99999999 := by
 obtain ⟨h1, h2, h3, h4⟩ := Xg.1 h
 obtain ⟨g1, g2, g3⟩ := xi.1 h1
 have hr : zH a = 0 := by
  unfold z8 at h
  rw [Bool.and_eq_true, Bool.and_eq_true, beq_iff_eq] at h
  exact h.1.1
 have b := vu g1 (k := 8) h2
 rw [show 10 ^ 8 = 100000000 from by decide] at b
 refine ⟨hr, by rw [tu]; omega, ?_⟩
 rw [(SG (a := a)).2]
 cases hs : zi (zQ a) with
 | false => show 1 ≤ 99999999; decide
 | true =>
  have b := vu (g3 hs).1 (k := 8) h3
  rw [show 10 ^ 8 = 100000000 from by decide] at b
  simp only [cond_true]
  omega
noncomputable def GG (G : List (Nat × Obj)) : Tb := ((((Xh G).plus 94 qF).plus 55 Vj).plus 95 (Yl fun s => .str (zQ s))).plus 96 S5
theorem OE {G : List (Nat × Obj)} (hG : zO G) : zz Tryz.prog (GG G) := zz.plus (zz.plus (zz.plus (zz.plus zq (zP.mono iw)) (zP.mono rR)) (zP.mono vI)) (Mw hG)
def wn : List AV → Option (List zN × AV)
 | [.str a] => some ([.p (a.length ≤ 9223372036854775807)], .tup 2 (zw [.agg 2 (zw [.str (bif zH a == 0 then zm a else []), .str (bif zH a == 0 then yx a else [])]), .i (zH a)]))
 | _ => none
theorem MK (G : List (Nat × Obj)) (a : List UInt8) (hl : a.length ≤ 9223372036854775807) :
 let q2 := (True ∧ 2 = 2 ∧ (bA #[] = bif zH a == iZ then zm a else []) ∧ bA #[] = bif zH a == iZ then yx a else []); let q1 := (j2 ∧ q2 ∧ kI ∧ (11 : Int) = zH a); let q4 := (bif ZM a then bif zi a then zB a else [(49 : UInt8)] else []); let q3 := (j2 ∧ (True ∧ 2 = 2 ∧ ((bif ZM a then zm a else []) = bif zH a == iZ then zm a else []) ∧ q4 = bif zH a == iZ then yx a else []) ∧
 kI ∧ iZ = zH a); let q7 := (lZ (zQ (bif ZM a then zm a else []))); let q6 := (zG (300 : Int) q7); let q5 := (!zr false q6 || zr false q6); let q8 := (ByteArray.data (ByteArray.mk #[(49 : UInt8)])); let q9 := (zc (bif ZM a then zm a else []) q4 != iZ); Zy [AV.str a] → lN a ≤ nX ∧ zZ (!ZM a) q1 (lN a ≤ nX ∧ zZ (z8 a) q3 (bF q5 (bF q5 (bF q5 (bF (!!zG (300 : Int) q7 || zr false q6) (zZ (bif zG (300 : Int) q7 then true else zG (300 : Int)
 (lZ q4)) (j2 ∧ q2 ∧ kI ∧ (4 : Int) = zH a) (zZ (q4 == Array.toList q8) q3 (lN (bif ZM a then zm a else []) ≤ nM ∧ lN q4 ≤ nM ∧ bF (!zr false q9 || zr false q9) (bF (!!zc (bif ZM a then zm a else []) q4 != iZ || zr false q9) (zZ (bif zc (bif ZM a then zm a else []) q4 != iZ then true else !(bif zc (bif ZM a then zm a else []) q4 != iZ then [] else Lib.itoa (cI (yN (bif ZM a then zm a else []) q4))) == Array.toList
 q8) q1 q3)))))))))) := by
 delta bF bA nX nM cI kI j2 lZ lN iZ
 dsimp only
 intro hb
 simp only [sS, dS, xt]
 have hFO := XE a
 have hden : (bif zi a then zB a else [49]) = yx a := rfl
 obtain ⟨o1, o2, o3, o4, o5, o6, o7⟩ := YE a
 refine ⟨hl, zX.2 ⟨fun c => ?_, fun c => ?_⟩⟩
 ·have c : ZM a = false := by simpa using c
  rw [c] at hFO
  rw [rF hFO.symm]
  exact ⟨rfl, ⟨rfl, rfl⟩, rfl⟩
 have c : ZM a = true := by simpa using c
 have hFO' : Ws a = true := hFO.symm.trans c
 simp only [c, cond_true, hden]
 have fin : zH a = 0 → 2 = [AV.junk, AV.junk].length ∧ ((zm a = bif zH a == 0 then zm a else []) ∧ yx a = bif zH a == 0 then yx a else []) ∧ 0 = zH a := fun h => by rw [h]; exact ⟨rfl, ⟨rfl, rfl⟩, rfl⟩
 have bad : ∀ e : Int, e ≠ 0 → zH a = e → 2 = [AV.junk, AV.junk].length ∧ (([] = bif zH a == 0 then zm a else []) ∧ [] = bif zH a == 0 then yx a else []) ∧ e = zH a := fun e h0 h => by
  rw [h, beq_eq_false_iff_ne.2 h0]; exact ⟨rfl, ⟨rfl, rfl⟩, rfl⟩
 have hlen : (zQ (zm a)).length = (zm (zQ a)).length := by rw [← (SO (zm a)).2, o5]
 have hcd := vK a
 have hdd := R4 a
 refine ⟨hl, zX.2 ⟨fun k => fin (yh k).1, fun k => zX.2 ⟨fun k2 => bad 4 (by decide) (Ou hFO' ?_), fun k2 => zX.2 ⟨fun k3 => ?_, fun k3 => ?_⟩⟩⟩⟩
 ·rw [Bool.or_eq_true, zp, zp, hlen] at k2
  rcases k2 with k2 | k2
  ·exact .inl (by omega)
  ·refine .inr ?_
   rw [← o2]
   unfold yx at k2
   cases hs : zi a with
   | true => rw [hs, cond_true] at k2; omega
   | false => rw [hs, cond_false] at k2; exact absurd k2 (by decide)
 ·have hs : zi a = false := by
   cases hs : zi a with
   | false => rfl
   | true =>
    unfold yx at k3
    rw [hs, cond_true] at k3
    have := (xi.1 hFO').2.2 (by rw [← o3]; exact hs)
    rw [← o2] at this
    exact absurd (eq_of_beq k3) this.2.2
  rw [Bool.or_eq_false_iff, Bool.eq_false_iff, Ne, zp, hlen] at k2
  exact fin (Rx hFO' (by omega) (by rw [← o3]; exact hs))
 ·have hs : zi a = true := by
   cases hs : zi a with
   | true => rfl
   | false => unfold yx at k3; rw [hs] at k3; cases k3
  have hdS : yx a = zB a := by unfold yx; rw [hs]; rfl
  rw [hdS] at k2 bad fin ⊢
  rw [Bool.or_eq_false_iff, Bool.eq_false_iff, Bool.eq_false_iff, Ne, Ne, zp, zp, hlen] at k2
  have e2 := UO hFO' ⟨by omega, by rw [← o2]; omega⟩ (by rw [← o3]; exact hs)
  have g := (xi.1 hFO').2.2 (by rw [← o3]; exact hs)
  rw [← o2] at g e2
  obtain ⟨i1, i2⟩ := wD g.1
  have hi : ZY (zm a) = true := by
   have := c
   unfold ZM at this
   rw [Bool.and_eq_true] at this
   exact this.1
  have hE : zc (zm a) (zB a) = 0 := by
   have l2 := (wM (zB a)).1
   have q1 : ZQ (zm a) = 0 := yt.2 ⟨hi, by rw [o5]; omega⟩
   have q2 : ZQ (zB a) = 0 := yt.2 ⟨i1, by omega⟩
   unfold zc
   rw [q1, q2]; rfl
  have hg : yN (zm a) (zB a) = Nat.gcd (zD (zm (zQ a))) (zD (zB a)) := by
   unfold yN
   rw [i2, Int.natAbs_natCast, ← tu]
   rfl
  have hge := IS (zm a)
  rw [hE]
  simp only [bne_self_eq_false, cond_false, Bool.false_or, rX, hg]
  refine ⟨by omega, by omega, zX.2 ⟨fun k4 => bad 11 (by decide) ?_, fun k4 => ?_⟩⟩
  ·rw [e2, show Nat.beq (Nat.gcd (zD (zm (zQ a))) (zD (zB a))) 1 = false by rw [Bool.not_eq_true'] at k4; exact k4]; rfl
  ·exact fin (by rw [e2, show Nat.beq (Nat.gcd (zD (zm (zQ a))) (zD (zB a))) 1 = true by rw [Bool.not_eq_false'] at k4; exact k4]; rfl)
theorem lH {G : List (Nat × Obj)} (hG : zO G) (a : List UInt8) (hl : a.length ≤ 9223372036854775807) : zu Tryz.prog G 57 [.str a] (.tup 2 (zw [.agg 2 (zw [.str (bif zH a == 0 then zm a else []), .str (bif zH a == 0 then yx a else [])]), .i (zH a)])) :=
 zv (T := GG G) (an := .auto) mixed (OE hG) (Eq.mp (by kernel_rfl) (MK G a hl))
theorem vj {G : List (Nat × Obj)} (hG : zO G) : zP Tryz.prog G 57 wn := by
 intro xs ps r h hp
 unfold wn at h
 split at h
 ·skip
  rename_i a
  cases h
  obtain ⟨q0, -⟩ := Zo hp
  exact weaken (ys := [.str a]) ⟨zV _, trivial⟩ (lH hG a q0)
 ·cases h
theorem kY (G : List (Nat × Obj)) (a : List UInt8) (hl : a.length ≤ 9223372036854775807) :
 Zy [AV.str a] → lN a ≤ nX ∧ kI ∧ zH a = zH a := by
 delta nX kI lN
 intro hb
 simp only [sS, dS, xt]
 exact hl
theorem jD {G : List (Nat × Obj)} (hG : zO G) (a : List UInt8) (hl : a.length ≤ 9223372036854775807) : zu Tryz.prog G 43 [.str a] (.i (zH a)) :=
 zv (T := (Xh G).plus 57 wn) (an := .auto) mixed (zz.plus zq (vj hG)) (Eq.mp (by kernel_rfl) (kY G a hl))
def VY (a b : zj) : Int := bif zH a != 0 then zH a else bif zH b != 0 then zH b else bif Zl (zK a * (zn b : Int)) != 0 then Zl (zK a * (zn b : Int)) else Zl (zK b * (zn a : Int))
def qp (a b : zj) : Int := bif VY a b == 0 then xM (zK a * (zn b : Int)) (zK b * (zn a : Int)) else 0
noncomputable def Hm (G : List (Nat × Obj)) : Tb := (((((Xh G).plus 57 wn).plus 55 Vj).plus 78 W9).plus 59 Sz).plus 56 tP
theorem qn {G : List (Nat × Obj)} (hG : zO G) : zz Tryz.prog (Hm G) := zz.plus (zz.plus (zz.plus (zz.plus (zz.plus zq (vj hG)) (zP.mono rR)) (Ua hG)) (nt hG)) (zP.mono Q5)
noncomputable def GK (G : List (Nat × Obj)) : Tb := (Hm G).body Tryz.prog [(58, .auto)]
theorem Ow {G : List (Nat × Obj)} (hG : zO G) : zz Tryz.prog (GK G) := zz.body mixed (qn hG) _
theorem Kz (G : List (Nat × Obj)) (a : List UInt8) (b : List UInt8) (hla : a.length ≤ 9223372036854775807) (hlb : b.length ≤ 9223372036854775807) :
 let q1 := ((bif z8 a then zK a else iZ) * bif z8 b then (cI (zn b)) else iZ); let q2 := ((bif z8 b then zK b else iZ) * bif z8 a then (cI (zn a)) else iZ); let q4 := (True ∧ kI ∧ iZ = qp a b); let q5 := (bif zH a == iZ then zm a else []); let q6 := (bif zH b == iZ then yx b else []); let q7 := (Yc (fun (x1 x2 : Int) => x1 * x2) q5 q6 != iZ); let q8 := (bA #[]); let q9 := (bif zH b == iZ then zm b else []); let q10 := (bif zH a == (0 :
 Int) then yx a else []); let q11 := (y6 (fun (x1 x2 : Int) => x1 * x2) q5 q6); let q12 := (y6 (fun (x1 x2 : Int) => x1 * x2) q9 q10); let q3 := (lN a ≤ nX ∧ zZ (zH a != iZ) (j2 ∧ q4 ∧ kI ∧ zH a = VY a b) (lN b ≤ nX ∧ zZ (zH b != iZ) (j2 ∧ q4 ∧ kI ∧ zH b = VY a b) (lN q5 ≤ nM ∧ lN q6 ≤ nM ∧ zZ q7 (zZ q7 (j2 ∧ q4 ∧ kI ∧ Yc
 (fun (x1 x2 : Int) => x1 * x2) q5 q6 = VY a b) (0 ≤ nM ∧ 0 ≤ nM ∧ j2 ∧ (True ∧ kI ∧ yc q8 q8 = qp a b) ∧ kI ∧ zc q8 q8 = VY a b)) (lN q9 ≤ nM ∧ lN q10 ≤ nM ∧ zZ (Yc (fun (x1 x2 : Int) => x1 * x2) q9 q10 != iZ) (j2 ∧ q4 ∧ kI ∧ Yc (fun (x1 x2 : Int) => x1 * x2) q9 q10 = VY a b) (lN q11 ≤ nM ∧ lN q12 ≤ nM ∧ j2 ∧ (True ∧ kI ∧ yc q11
 q12 = qp a b) ∧ kI ∧ zc q11 q12 = VY a b))))); Zy [AV.str a, AV.str b] → lN a ≤ nX ∧ zZ (z8 a) (lN b ≤ nX ∧ zZ (z8 b) (bF (dK q1) (bF (dK q2) (j2 ∧ (True ∧ kI ∧ xM q1 q2 = qp a b) ∧ kI ∧ iZ = VY a b))) q3) q3 := by
 delta bF dK bA nX nM cI kI j2 lN iZ
 dsimp only
 intro hb
 simp only [sS, dS, xt]
 have ncd := vK a
 have ncb := vK b
 have dl : ∀ a : zj, zH a = 0 → (yx a).length ≤ 301 := fun a h => by have := (Zq.1 h).2.2.1; unfold yx; cases zi a <;> simp <;> omega
 have eA : zH a ≠ 0 → 0 = qp a b ∧ zH a = VY a b := fun h => by
  have e : VY a b = zH a := by unfold VY; rw [bne_iff_ne.2 h]; rfl
  unfold qp
  rw [e, beq_eq_false_iff_ne.2 h]
  exact ⟨rfl, rfl⟩
 have eB : zH a = 0 → zH b ≠ 0 → 0 = qp a b ∧ zH b = VY a b := fun h0 h => by
  have e : VY a b = zH b := by unfold VY; rw [h0, bne_iff_ne.2 h]; rfl
  unfold qp
  rw [e, beq_eq_false_iff_ne.2 h]
  exact ⟨rfl, rfl⟩
 have eC : zH a = 0 → zH b = 0 → Zl (zK a * (zn b : Int)) ≠ 0 → 0 = qp a b ∧ Zl (zK a * (zn b : Int)) = VY a b := fun h0 h1 h => by
  have e : VY a b = Zl (zK a * (zn b : Int)) := by unfold VY; rw [h0, h1, bne_iff_ne.2 h]; rfl
  unfold qp
  rw [e, beq_eq_false_iff_ne.2 h]
  exact ⟨rfl, rfl⟩
 have eD : zH a = 0 → zH b = 0 → Zl (zK a * (zn b : Int)) = 0 → VY a b = Zl (zK b * (zn a : Int)) := fun h0 h1 h => by
  unfold VY; rw [h0, h1, h]; rfl
 have big : zH a = 0 → zH b = 0 → _ := fun h0 h1 => And.intro (Gt h0 h1) (Gt h1 h0)
 refine ⟨hla, zX.2 ⟨fun c => ⟨hlb, zX.2 ⟨fun c2 => ?_, fun c2 => ?_⟩⟩, fun c => ?_⟩⟩
 ·obtain ⟨a1, a2, a3⟩ := yh c
  obtain ⟨b1, b2, b3⟩ := yh c2
  rw [c, c2]
  simp only [cond_true]
  have m1 : (zK a * (zn b : Int)).natAbs ≤ 99999999 * 99999999 := by rw [Int.natAbs_mul, Int.natAbs_natCast]; exact Nat.mul_le_mul a2 b3
  have m2 : (zK b * (zn a : Int)).natAbs ≤ 99999999 * 99999999 := by rw [Int.natAbs_mul, Int.natAbs_natCast]; exact Nat.mul_le_mul b2 a3
  obtain ⟨r1, r2⟩ := ZO (n := zK a * (zn b : Int)) (k := 20) (by omega) (by omega) (by omega)
  obtain ⟨r3, r4⟩ := ZO (n := zK b * (zn a : Int)) (k := 20) (by omega) (by omega) (by omega)
  have e := eD a1 b1 r2
  rw [r4] at e
  unfold qp
  rw [e]
  exact ⟨⟨by omega, by omega⟩, ⟨by omega, by omega⟩, rfl, rfl, rfl⟩
 all_goals
  refine ⟨hla, fun h => ⟨rfl, eA h⟩, fun h0 => ⟨hlb, fun h => ⟨rfl, eB h0 h⟩, fun h1 => ?_⟩⟩
  obtain ⟨⟨p1, p2⟩, p3, p4⟩ := big h0 h1
  have dla := dl a h0
  have dlb := dl b h1
  have nla := (Zq.1 h0).2.1
  have nlb := (Zq.1 h1).2.1
  have ll1 := (wM (zm a)).2
  have ll2 := (wM (zm b)).2
  rw [h0, h1]
  simp only [beq_self_eq_true, cond_true, p1, p2, p3, p4]
  refine ⟨by omega, by omega, fun h => ⟨fun _ => ⟨rfl, eC h0 h1 h⟩, fun h2 => absurd h2 h⟩, fun h => ⟨by omega, by omega, fun h2 => ?_, fun h2 => ?_⟩⟩
  ·have e := eD h0 h1 h
   unfold qp
   rw [e, beq_eq_false_iff_ne.2 h2]
   exact ⟨rfl, rfl, rfl⟩
  ·have e := eD h0 h1 h
   rw [h2] at e
   obtain ⟨q1, q2, q3, q4⟩ := KU h h2
   unfold qp
   rw [e, q1, q2]
   exact ⟨q3, q4, rfl, rfl, rfl⟩
theorem J3 {G : List (Nat × Obj)} (hG : zO G) (a : List UInt8) (b : List UInt8) (hla : a.length ≤ 9223372036854775807) (hlb : b.length ≤ 9223372036854775807) : zu Tryz.prog G 29 [.str a, .str b] (.tup 2 (zw [.i (qp a b), .i (VY a b)])) :=
 zv (T := GK G) (an := .auto) mixed (Ow hG) (Eq.mp (by kernel_rfl) (Kz G a b hla hlb))
end Go.Te

namespace Go.Te
open Go Go.Sx Go.Proofs Go.Ar
set_option maxRecDepth 100000
set_option maxHeartbeats 4000000
structure Nt where
 n : Int
 d : Int
instance : zR Nt := ⟨2, ⟨0, 0⟩, fun c => zw [.i c.n, .i c.d], fun cs => ⟨AV.int (cs 0), AV.int (cs 1)⟩, fun cs => Y3 (cs 0) && Y3 (cs 1), fun cs h j hj => by
 simp only [Bool.and_eq_true] at h
 match j, hj with
 | 0, _ => exact ZT (tn h.1)
 | 1, _ => exact ZT (tn h.2)⟩
instance : Yy Nt := ⟨fun _ => rfl, fun _ => rfl⟩
def xx (n d : Int) : zj := bif zG d 0 then ZL (-n) (-d).toNat else ZL n d.toNat
theorem ml (n : Int) {d : Int} (hd : 0 < d) : wc (if -n > n then -n else n) d = (Nat.gcd n.natAbs d.toNat : Int) := by
 have e : (if -n > n then -n else n) = (n.natAbs : Int) := by split <;> omega
 unfold wc
 rw [e, (Zx _ _).2 (show (0 : Int) ≤ (n.natAbs : Int) by omega), (Zx _ _).2 (show 0 ≤ d by omega), Int.toNat_natCast]
 rfl
theorem P1 (n : Int) {d : Int} (hd : 0 < d) : (0 : Int) < (Nat.gcd n.natAbs d.toNat : Int) ∧ n.tdiv (Nat.gcd n.natAbs d.toNat : Int) = n / (Nat.gcd n.natAbs d.toNat : Int) ∧ d.tdiv (Nat.gcd n.natAbs d.toNat : Int) = ((d.toNat / Nat.gcd n.natAbs d.toNat : Nat) : Int) ∧ (n / (Nat.gcd n.natAbs d.toNat : Int)).natAbs ≤ n.natAbs ∧ 0 < d.toNat / Nat.gcd n.natAbs d.toNat ∧ d.toNat / Nat.gcd n.natAbs d.toNat ≤ d.toNat := by
 have hg : 0 < Nat.gcd n.natAbs d.toNat := Nat.gcd_pos_of_pos_right _ (by omega)
 have hdv := Nat.gcd_dvd_right n.natAbs d.toNat
 have hnv : ((Nat.gcd n.natAbs d.toNat : Nat) : Int) ∣ n := Int.ofNat_dvd_left.2 (Nat.gcd_dvd_left _ _)
 generalize Nat.gcd n.natAbs d.toNat = g at *
 have e1 : n.tdiv (g : Int) = n / (g : Int) := Int.tdiv_eq_ediv_of_dvd hnv
 refine ⟨by omega, e1, ?_, ?_, Nat.div_pos (Nat.le_of_dvd (by omega) hdv) hg, Nat.div_le_self _ _⟩
 ·rw [Int.tdiv_eq_ediv_of_nonneg (by omega), Int.natCast_ediv]
  congr 1
  omega
 ·rw [← e1]; exact Int.natAbs_tdiv_le_natAbs n g
theorem qW (n : Int) (d : Nat) : (d / Nat.gcd n.natAbs d = 1 → Lib.itoa (n / (Nat.gcd n.natAbs d : Int)) = ZL n d) ∧ (d / Nat.gcd n.natAbs d ≠ 1 → Lib.itoa (n / (Nat.gcd n.natAbs d : Int)) ++ [47] ++ Lib.itoa ((d / Nat.gcd n.natAbs d : Nat) : Int) = ZL n d) := by
 unfold ZL Yd
 refine ⟨fun h => ?_, fun h => ?_⟩
 ·rw [h]
  exact (List.append_nil _).symm
 ·rw [show Nat.beq (d / Nat.gcd n.natAbs d) 1 = false from Bool.eq_false_iff.2 fun e => h (Nat.eq_of_beq_eq_true e), Go.Ar.yY]
  simp
theorem PW {n : Int} (h : n.natAbs < 10 ^ 20) : (Lib.itoa n).length ≤ 21 := by
 rw [Xw]
 have : XZ n ≤ 20 := xf (by omega) h
 split <;> omega
def SD : List AV → Option (List zN × AV)
 | [.agg 2 p_x] => some ([.b (Y3 (p_x 0) && Y3 (p_x 1)), .p ((⟨AV.int (p_x 0), AV.int (p_x 1)⟩ : Nt).d ≠ 0), .p (-1000000000000000000 ≤ (⟨AV.int (p_x 0), AV.int (p_x 1)⟩ : Nt).d ∧ (⟨AV.int (p_x 0), AV.int (p_x 1)⟩ : Nt).d ≤ 1000000000000000000), .p (-1000000000000000000 ≤ (⟨AV.int (p_x 0), AV.int (p_x 1)⟩ : Nt).n ∧ (⟨AV.int (p_x 0), AV.int (p_x 1)⟩ : Nt).n ≤ 1000000000000000000)], .str (xx (⟨AV.int (p_x 0), AV.int (p_x 1)⟩ : Nt).n (⟨AV.int (p_x 0), AV.int (p_x 1)⟩ : Nt).d))
 | _ => none
theorem Lv (G : List (Nat × Obj)) (x : Nt) (h0 : x.d ≠ 0) (h1 : -1000000000000000000 ≤ x.d ∧ x.d ≤ 1000000000000000000) (h2 : -1000000000000000000 ≤ x.n ∧ x.n ≤ 1000000000000000000) :
 let q1 := (if - -Nt.n x > -Nt.n x then - -Nt.n x else -Nt.n x); let q2 := (DB.db (wc q1 (-Nt.d x) ≠ iZ)); let q4 := (wc q1 (-Nt.d x)); let q3 := (Int.tdiv (-Nt.n x) q4); let q5 := (Int.tdiv (-Nt.d x) q4); let q6 := (iN ≤ Int.tdiv (-Nt.n x) q4 ∧ Int.tdiv (-Nt.n x) q4 ≤ iX); let q7 := (ByteArray.data (ByteArray.mk #[(47 : UInt8)])); let q8 := (if -Nt.n x > Nt.n x then -Nt.n x else Nt.n x); let q9 := (DB.db (wc q8 (Nt.d x) ≠ iZ)); let q11 := (wc q8 (Nt.d x)); let q10 := (Int.tdiv (Nt.n x) q11); let q12 := (Int.tdiv (Nt.d x)
 q11); let q13 := (iN ≤ Int.tdiv (Nt.n x) q11 ∧ Int.tdiv (Nt.n x) q11 ≤ iX); Zy [AV.agg 2 (zR.enc x)] → zZ (zG (Nt.d x) iZ) (bF (dK (-Nt.n x)) (bF (dK (-Nt.d x)) (bF (dK (- -Nt.n x)) (((iZ ≤ if - -Nt.n x > -Nt.n x then - -Nt.n x else -Nt.n x) ∧ q1 ≤ iX) ∧ (iZ ≤ -Nt.d x ∧ -Nt.d x ≤ iX) ∧ bF q2 (bF (dK q3) (bF q2 (bF (dK q5) (zZ (Int.tdiv (-Nt.d x) q4 == iO) (q6
 ∧ Lib.itoa q3 = xx (Nt.n x) (Nt.d x)) (q6 ∧ bF (DB.db (lN (Lib.itoa q3) + 1 ≤ nX)) ((iN ≤ Int.tdiv (-Nt.d x) q4 ∧ Int.tdiv (-Nt.d x) q4 ≤ iX) ∧ bF (DB.db (lN (Lib.itoa q3 ++ Array.toList q7) + lN (Lib.itoa q5) ≤ nX)) (Lib.itoa q3 ++ Array.toList q7 ++ Lib.itoa q5 = xx (Nt.n x) (Nt.d x)))))))))))) (bF (dK (-Nt.n x)) (((iZ ≤ if -Nt.n x > Nt.n x then -Nt.n x else Nt.n x) ∧ q8 ≤ (9223372036854775807 :
 Int)) ∧ (iZ ≤ Nt.d x ∧ Nt.d x ≤ iX) ∧ bF q9 (bF (dK q10) (bF q9 (bF (dK q12) (zZ (Int.tdiv (Nt.d x) q11 == iO) (q13 ∧ Lib.itoa q10 = xx (Nt.n x) (Nt.d x)) (q13 ∧ bF (DB.db (lN (Lib.itoa q10) + 1 ≤ nX)) ((iN ≤ Int.tdiv (Nt.d x) q11 ∧ Int.tdiv (Nt.d x) q11 ≤ iX) ∧ bF (DB.db (lN (Lib.itoa q10 ++ Array.toList q7) + lN (Lib.itoa q12) ≤ nX)) (Lib.itoa q10 ++ Array.toList q7 ++ Lib.itoa q12 = xx
 (Nt.n x) (Nt.d x)))))))))) := by
 delta bF dK nX lN iZ iO iX iN
 dsimp only
 intro hb
 simp only [sS, dS]
 have key : ∀ n d : Int, 0 < d → d ≤ 1000000000000000000 → -1000000000000000000 ≤ n ∧ n ≤ 1000000000000000000 → _ := fun n d hd hd1 hn => And.intro (ml n hd) (And.intro (P1 n hd) (qW n d.toNat))
 refine ⟨fun hd => ?_, fun hd => ?_⟩
 ·obtain ⟨k1, ⟨k2, k3, k4, k5, k6, k7⟩, k8, k9⟩ := key (-x.n) (-x.d) (by omega) (by omega) ⟨by omega, by omega⟩
  have hs : xx x.n x.d = ZL (-x.n) (-x.d).toNat := by unfold xx; rw [(zp _ _).2 hd]; rfl
  rw [k1, k3, k4, hs]
  generalize ZL (-x.n) (-x.d).toNat = R at *
  generalize Nat.gcd (-x.n).natAbs (-x.d).toNat = g at *
  generalize (-x.n) / (g : Int) = q at *
  generalize (-x.d).toNat / g = e at *
  have l1 := PW (n := q) (by omega)
  have l2 := PW (n := (e : Int)) (by omega)
  refine ⟨⟨by omega, by omega⟩, ⟨by omega, by omega⟩, ⟨by omega, by omega⟩, ⟨by split <;> omega, by split <;> omega⟩, ⟨by omega, by omega⟩, by omega, ⟨by omega, by omega⟩, by omega, ⟨by omega, by omega⟩, fun h => ⟨⟨by omega, by omega⟩, k8 (by omega)⟩, fun h => ⟨⟨by omega, by omega⟩, by omega, ⟨by omega, by omega⟩, by rw [List.length_append, List.length_singleton]; omega, k9 (by omega)⟩⟩
 ·obtain ⟨k1, ⟨k2, k3, k4, k5, k6, k7⟩, k8, k9⟩ := key x.n x.d (by omega) (by omega) h2
  have hs : xx x.n x.d = ZL x.n x.d.toNat := by unfold xx; rw [show zG x.d 0 = false from Bool.eq_false_iff.2 fun e => by have := (zp _ _).1 e; omega]; rfl
  rw [k1, k3, k4, hs]
  generalize ZL x.n x.d.toNat = R at *
  generalize Nat.gcd x.n.natAbs x.d.toNat = g at *
  generalize x.n / (g : Int) = q at *
  generalize hD : x.d.toNat / g = e at *
  have l1 := PW (n := q) (by omega)
  have l2 := PW (n := (e : Int)) (by omega)
  refine ⟨⟨by omega, by omega⟩, ⟨by split <;> omega, by split <;> omega⟩, ⟨by omega, by omega⟩, by omega, ⟨by omega, by omega⟩, by omega, ⟨by omega, by omega⟩, fun h => ⟨⟨by omega, by omega⟩, k8 (by omega)⟩, fun h => ⟨⟨by omega, by omega⟩, by omega, ⟨by omega, by omega⟩, by rw [List.length_append, List.length_singleton]; omega, k9 (by omega)⟩⟩
theorem j8 {G : List (Nat × Obj)} (hG : zO G) (x : Nt) (h0 : x.d ≠ 0) (h1 : -1000000000000000000 ≤ x.d ∧ x.d ≤ 1000000000000000000) (h2 : -1000000000000000000 ≤ x.n ∧ x.n ≤ 1000000000000000000) : zu Tryz.prog G 101 [xz x] (.str (xx x.n x.d)) :=
 zv (T := (KR G).plus 92 rY) (an := .auto) mixed (zz.plus (YF hG) (zP.mono MJ)) (Eq.mp (by kernel_rfl) (Lv G x h0 h1 h2))
theorem mt {G : List (Nat × Obj)} (hG : zO G) : zP Tryz.prog G 101 SD := by
 intro xs ps r h hp
 unfold SD at h
 split at h
 ·skip
  rename_i p_x
  cases h
  obtain ⟨q0, q1, q2, q3, -⟩ := Zo hp
  exact weaken (ys := [xz (⟨AV.int (p_x 0), AV.int (p_x 1)⟩ : Nt)]) ⟨Zs (x := .agg 2 p_x) (α := Nt) q0, trivial⟩ (j8 hG (⟨AV.int (p_x 0), AV.int (p_x 1)⟩ : Nt) q1 q2 q3)
 ·cases h
def yj (s : zj) : zj := bif s == [48] then s else bif zk s then zQ s else 45 :: s
def QR : List AV → Option (List zN × AV)
 | [.str s] => some ([.p (s.length ≤ 4294967280)], .str (yj s))
 | _ => none
theorem LS (s : List UInt8) (hl : s.length ≤ 4294967280) :
 Zy [AV.str s] → zZ (s == bA #[(48 : UInt8)]) (s = yj s) (zZ (zk s) (zQ s = yj s) (bF (DB.db (1 + lN s ≤ nX)) (bA #[(45 : UInt8)] ++ s = yj s))) := by
 delta bF bA nX lN
 intro hb
 simp only [sS, dS]
 unfold yj
 refine zX.2 ⟨fun c => by rw [c]; rfl, fun c => zX.2 ⟨fun c2 => by rw [c, c2]; rfl, fun c2 => ⟨by omega, by rw [c, c2]; rfl⟩⟩⟩
theorem Im (s : List UInt8) (hl : s.length ≤ 4294967280) : zu Tryz.prog [] 114 [.str s] (.str (yj s)) :=
 zv (T := T0.plus 140 (Yl fun s => .tup 2 (zw [.str (zQ s), .b (zk s)]))) (an := .auto) mixed (zz.plus zq Qy) (Eq.mp (by kernel_rfl) (LS s hl))
theorem JF : zP Tryz.prog [] 114 QR := by
 intro xs ps r h hp
 unfold QR at h
 split at h
 ·skip
  rename_i s
  cases h
  obtain ⟨q0, -⟩ := Zo hp
  exact weaken (ys := [.str s]) ⟨zV _, trivial⟩ (Im s q0)
 ·cases h
theorem qU {s : zj} (h : ZQ s = 0) : ZQ (yj s) = 0 ∧ zY (yj s) = -zY s ∧ (yj s).length ≤ 302 := by
 obtain ⟨h1, h2⟩ := yt.1 h
 have e : yj s = Lib.itoa (-zY s) := by
  unfold yj
  by_cases h0 : s = [48]
  ·subst h0
   show [48] = Lib.itoa ((0 : Nat) : Int)
   rw [Go.Ar.yY, z7 (by omega)]; rfl
  rw [beq_eq_false_iff_ne.2 h0, cond_false]
  rcases yI h1 with ⟨r, rfl, g1, g2, g3⟩ | ⟨g1, g3⟩
  ·rw [g3, Int.neg_neg, Go.Ar.yY, Ze g1]
   rfl
  ·have hm : zk s = false := by
    cases hm : zk s with
    | false => rfl
    | true =>
     match s, hm, g1 with
     | c :: r, hm, g1 =>
      have hc : c = 45 := eq_of_beq hm
      subst hc
      exact (wo g1).elim
   have hz : zD s ≠ 0 := fun hz => h0 (Vb g1 hz)
   rw [hm, cond_false, g3, Go.Ar.itoa_neg hz, Ze g1]
 have hl := (wM (yj s)).2
 have hE : ZQ (yj s) = 0 := by
  rw [e, YT]
  unfold Zl XZ
  rw [Int.natAbs_neg]
  rw [wR h1] at h2
  unfold XZ at h2
  rw [show Nat.blt 300 (Lib.nDigits (zY s).natAbs) = false from Bool.eq_false_iff.2 fun e => by have := (ZX _ _).1 e; omega]
  rfl
 exact ⟨hE, by rw [e, (zb _).2], by have := (yt.1 hE).2; omega⟩
theorem mf {N : Int} {D : Nat} {n d : zj} (hn : n = Lib.itoa (N / (Nat.gcd N.natAbs D : Int))) (hd : d = Lib.itoa ((D / Nat.gcd N.natAbs D : Nat) : Int)) (ln : n.length ≤ 400) (ld : d.length ≤ 400) :
  zZ (d == [49]) (2 = [AV.junk, AV.junk].length ∧ n = ZL N D) (n.length + 1 ≤ 9223372036854775807 ∧ (n ++ [47]).length + d.length ≤ 9223372036854775807 ∧ 2 = [AV.junk, AV.junk].length ∧ n ++ [47] ++ d = ZL N D) := by
 obtain ⟨s1, s2⟩ := qW N D
 have e := rX (D / Nat.gcd N.natAbs D)
 rw [← hd] at e
 refine zX.2 ⟨fun c => ⟨rfl, ?_⟩, fun c => ⟨by omega, by rw [List.length_append, List.length_singleton]; omega, rfl, ?_⟩⟩
 ·rw [c] at e
  rw [hn]; exact s1 (Nat.eq_of_beq_eq_true e.symm)
 ·rw [c] at e
  rw [hn, hd]; exact s2 fun h => by rw [h] at e; cases e
theorem J0 {n d : zj} (hn : ZQ n = 0) (hd : ZQ d = 0) (hp : 0 < zY d) : zc n d = 0 ∧ (Lib.itoa (yN n d : Int)).length ≤ 400 ∧ n.length ≤ 400 ∧ d.length ≤ 400 ∧
  zZ (!Lib.itoa (yN n d : Int) == [49])
   (zZ (Yw d (Lib.itoa (yN n d : Int)) == [49]) (2 = [AV.junk, AV.junk].length ∧ Yw n (Lib.itoa (yN n d : Int)) = ZL (zY n) (zY d).toNat)
    (List.length (Yw n (Lib.itoa (yN n d : Int))) + 1 ≤ 9223372036854775807 ∧ List.length (Yw n (Lib.itoa (yN n d : Int)) ++ [47]) + List.length (Yw d (Lib.itoa (yN n d : Int))) ≤ 9223372036854775807 ∧
     2 = [AV.junk, AV.junk].length ∧ Yw n (Lib.itoa (yN n d : Int)) ++ [47] ++ Yw d (Lib.itoa (yN n d : Int)) = ZL (zY n) (zY d).toNat))
   (zZ (d == [49]) (2 = [AV.junk, AV.junk].length ∧ n = ZL (zY n) (zY d).toNat) (n.length + 1 ≤ 9223372036854775807 ∧ (n ++ [47]).length + d.length ≤ 9223372036854775807 ∧ 2 = [AV.junk, AV.junk].length ∧ n ++ [47] ++ d = ZL (zY n) (zY d).toNat)) := by
 have hb : zc n d = 0 := by unfold zc; rw [hn, hd]; rfl
 obtain ⟨n1, n2, n3⟩ := yV hn
 obtain ⟨d1, d2, d3⟩ := yV hd
 have n4 := Ta hn
 have d4 := Ta hd
 have eD : (zY d).natAbs = (zY d).toNat := by omega
 have hg : yN n d = Nat.gcd (zY n).natAbs (zY d).toNat := by unfold yN; rw [eD]
 obtain ⟨g1, g2, g3, g4, g5, g6⟩ := P1 (zY n) hp
 rw [← hg] at g1 g2 g3 g4 g5 g6
 have gl : yN n d ≤ (zY d).natAbs := by rw [hg, eD]; exact Nat.le_of_dvd (by omega) (Nat.gcd_dvd_right _ _)
 have gi : ZQ (Lib.itoa (yN n d : Int)) = 0 := by
  rw [YT]
  exact (ZO (n := (yN n d : Int)) (k := 300) (by omega) (by omega) (by rw [Int.natAbs_natCast]; omega)).2
 have lg := (yV gi).2.1
 have hz : (Lib.itoa (yN n d : Int) == [48]) = false := beq_eq_false_iff_ne.2 fun e => by
  have := (zb (yN n d : Int)).2
  rw [e] at this
  have h0 : zY [48] = 0 := by decide
  rw [h0] at this
  omega
 have dv : ∀ x : zj, ZQ x = 0 → Yw x (Lib.itoa (yN n d : Int)) = Lib.itoa (zY x / (yN n d : Int)) := fun x hx => by
  have e : Xy x (Lib.itoa (yN n d : Int)) = 0 := by
   unfold Xy zc
   rw [hx, gi, hz]; rfl
  rw [(Q3 e).1, (zb _).2, Int.fdiv_eq_ediv_of_nonneg _ (by omega)]
 have vd : zY d / (yN n d : Int) = (((zY d).toNat / yN n d : Nat) : Int) := by
  rw [Int.natCast_ediv]; congr 1; omega
 have qd := dv d hd
 rw [vd] at qd
 have ql : ∀ x : Int, x.natAbs < 10 ^ 300 → (Lib.itoa x).length ≤ 400 := fun x hx => by
  have := YT x
  rw [(ZO (n := x) (k := 300) (by omega) (by omega) hx).2] at this
  have := (yV this).2.1
  omega
 refine ⟨hb, by omega, by omega, by omega, zX.2 ⟨fun c => ?_, fun c => ?_⟩⟩
 ·refine mf (by rw [dv n hn, hg]) (by rw [qd, hg]) ?_ ?_
  ·rw [dv n hn]; exact ql _ (by omega)
  ·rw [qd]; exact ql _ (by rw [Int.natAbs_natCast]; omega)
 ·rw [Bool.not_eq_false', rX] at c
  have c1 := Nat.eq_of_beq_eq_true c
  rw [hg] at c1
  refine mf ?_ ?_ (by omega) (by omega)
  ·rw [c1]
   show n = Lib.itoa (zY n / 1)
   rw [Int.ediv_one, YG n3]
  ·rw [c1, Nat.div_one, show (((zY d).toNat : Nat) : Int) = zY d by omega, YG d3]
def Vo : List AV → Option (List zN × AV)
 | [.str n, .str d] => some ([.p (ZQ n = 0), .p (ZQ d = 0), .p (zY d ≠ 0)], .tup 2 (zw [.str (xx (zY n) (zY d)), .i 0]))
 | _ => none
theorem kN (G : List (Nat × Obj)) (n : List UInt8) (d : List UInt8) (hn : ZQ n = 0) (hd : ZQ d = 0) (hp : zY d ≠ 0) :
 let q1 := (True ∧ bA #[] = xx (zY n) (zY d)); let q2 := (bif zc (yj n) (yj d) != iZ then [] else Lib.itoa (cI (yN (yj n) (yj d)))); let q3 := (ByteArray.data (ByteArray.mk #[(49 : UInt8)])); let q4 := (ByteArray.data (ByteArray.mk #[(47 : UInt8)])); let q5 := (bif zc n d != iZ then [] else Lib.itoa (cI (yN n d))); Zy [AV.str n, AV.str d] → zZ (zk d) (lN n ≤ nM ∧ lN d ≤ nM ∧ lN (yj n) ≤ nM ∧ lN (yj d) ≤ nM ∧ zZ (zc (yj n)
 (yj d) != iZ) (j2 ∧ q1 ∧ kI ∧ zc (yj n) (yj d) = iZ) (zZ (!q2 == Array.toList q3) (lN (yj n) ≤ nM ∧ lN q2 ≤ nM ∧ lN (yj d) ≤ nM ∧ lN q2 ≤ nM ∧ zZ (Yw (yj d) q2 == Array.toList q3) (j2 ∧ (True ∧ Yw (yj n) q2 = xx (zY n) (zY d)) ∧ kI ∧ iZ = iZ) (bF (DB.db (lN (Yw (yj n) q2) + 1 ≤ nX)) (bF (DB.db (lN (Yw (yj n) q2 ++
 Array.toList q4) + lN (Yw (yj d) q2) ≤ nX)) (j2 ∧ (True ∧ Yw (yj n) q2 ++ Array.toList q4 ++ Yw (yj d) q2 = xx (zY n) (zY d)) ∧ kI ∧ iZ = iZ)))) (zZ (yj d == Array.toList q3) (j2 ∧ (True ∧ yj n = xx (zY n) (zY d)) ∧ kI ∧ iZ = iZ) (bF (DB.db (lN (yj n) + 1 ≤ nX)) (bF (DB.db (lN (yj n ++ Array.toList q4) + lN (yj d) ≤ nX)) (2 =
 lN [AV.junk, AV.junk] ∧ (True ∧ yj n ++ Array.toList q4 ++ yj d = xx (zY n) (zY d)) ∧ kI ∧ iZ = iZ)))))) (lN n ≤ nM ∧ lN d ≤ nM ∧ zZ (zc n d != iZ) (j2 ∧ q1 ∧ kI ∧ zc n d = iZ) (zZ (!q5 == Array.toList q3) (lN n ≤ nM ∧ lN q5 ≤ nM ∧ lN d ≤ nM ∧ lN q5 ≤ nM ∧ zZ (Yw d q5 == Array.toList q3) (j2 ∧ (True ∧ Yw n q5 = xx (zY
 n) (zY d)) ∧ kI ∧ iZ = iZ) (bF (DB.db (lN (Yw n q5) + 1 ≤ nX)) (bF (DB.db (lN (Yw n q5 ++ Array.toList q4) + lN (Yw d q5) ≤ nX)) (j2 ∧ (True ∧ Yw n q5 ++ Array.toList q4 ++ Yw d q5 = xx (zY n) (zY d)) ∧ kI ∧ iZ = iZ)))) (zZ (d == Array.toList q3) (j2 ∧ (True ∧ n = xx (zY n) (zY d)) ∧ kI ∧ iZ = iZ) (bF (DB.db (lN n + 1 ≤
 nX)) (bF (DB.db (lN (n ++ Array.toList q4) + lN d ≤ nX)) (j2 ∧ (True ∧ n ++ Array.toList q4 ++ d = xx (zY n) (zY d)) ∧ kI ∧ iZ = iZ)))))) := by
 delta bF bA nX nM cI kI j2 lN iZ
 dsimp only
 intro hb
 simp only [sS, dS]
 have key : ∀ n d : zj, ZQ n = 0 → ZQ d = 0 → 0 < zY d → _ := fun n d h1 h2 h3 => J0 h1 h2 h3
 refine zX.2 ⟨fun c => ?_, fun c => ?_⟩
 ·obtain ⟨o1, o2, o3⟩ := qU hn
  obtain ⟨p1, p2, p3⟩ := qU hd
  have hneg : zY d < 0 := by
   match d, c with
   | x :: r, c =>
    have hx : x = 45 := eq_of_beq c
    subst hx
    have : zY (45 :: r) = -(zD r : Int) := rfl
    omega
  have hs : xx (zY n) (zY d) = ZL (zY (yj n)) (zY (yj d)).toNat := by unfold xx; rw [(zp _ _).2 hneg, o2, p2]; rfl
  obtain ⟨k1, k2, k3, k4, k5⟩ := key (yj n) (yj d) o1 p1 (by omega)
  obtain ⟨_, n2, _⟩ := yV hn
  obtain ⟨_, d2, _⟩ := yV hd
  rw [k1, hs]
  refine ⟨by omega, by omega, by omega, by omega, fun h => absurd rfl h, fun _ => ?_⟩
  refine zX.2 ⟨fun c => ⟨by omega, Nat.le_trans k2 (by decide), by omega, Nat.le_trans k2 (by decide), ?_⟩, fun c => ?_⟩
  ·exact (zX.1 k5).1 c
  ·exact (zX.1 k5).2 c
 ·have hpos : 0 < zY d := by
   obtain ⟨d1, _⟩ := yt.1 hd
   rcases yI d1 with ⟨r, rfl, _⟩ | ⟨g1, g3⟩
   ·cases c
   ·omega
  have hs : xx (zY n) (zY d) = ZL (zY n) (zY d).toNat := by unfold xx; rw [show zG (zY d) 0 = false from Bool.eq_false_iff.2 fun e => by have := (zp _ _).1 e; omega]; rfl
  obtain ⟨k1, k2, k3, k4, k5⟩ := key n d hn hd hpos
  rw [k1, hs]
  refine ⟨by omega, by omega, fun h => absurd rfl h, fun _ => ?_⟩
  refine zX.2 ⟨fun c => ⟨by omega, Nat.le_trans k2 (by decide), by omega, Nat.le_trans k2 (by decide), ?_⟩, fun c => ?_⟩
  ·exact (zX.1 k5).1 c
  ·exact (zX.1 k5).2 c
theorem IN {G : List (Nat × Obj)} (hG : zO G) (n : List UInt8) (d : List UInt8) (hn : ZQ n = 0) (hd : ZQ d = 0) (hp : zY d ≠ 0) : zu Tryz.prog G 79 [.str n, .str d] (.tup 2 (zw [.str (xx (zY n) (zY d)), .i 0])) :=
 zv (T := ((((Xh G).plus 44 (Yl fun s => .b (zk s))).plus 96 S5).plus 115 rV).plus 114 QR) (an := .auto) mixed (zz.plus (zz.plus (zz.plus (zz.plus zq (zP.mono rp)) (Mw hG)) (mT hG)) (zP.mono JF)) (Eq.mp (by kernel_rfl) (kN G n d hn hd hp))
theorem S8 {G : List (Nat × Obj)} (hG : zO G) : zP Tryz.prog G 79 Vo := by
 intro xs ps r h hp
 unfold Vo at h
 split at h
 ·skip
  rename_i n d
  cases h
  obtain ⟨q0, q1, q2, -⟩ := Zo hp
  exact weaken (ys := [.str n, .str d]) ⟨zV _, zV _, trivial⟩ (IN hG n d q0 q1 q2)
 ·cases h
end Go.Te

namespace Go.Te
open Go Go.Sx Go.Proofs Go.Ar
set_option maxRecDepth 100000
set_option maxHeartbeats 4000000
structure Pt where
 n : zj
 d : zj
instance : zR Pt := ⟨2, ⟨[], []⟩, fun c => zw [.str c.n, .str c.d], fun cs => ⟨AV.bytes (cs 0), AV.bytes (cs 1)⟩, fun cs => Zk (cs 0) && Zk (cs 1), fun cs h j hj => by
 simp only [Bool.and_eq_true] at h
 match j, hj with
 | 0, _ => exact ZT (Xq h.1)
 | 1, _ => exact ZT (Xq h.2)⟩
instance : Yy Pt := ⟨fun _ => rfl, fun _ => rfl⟩
def jk (k : Nat) : AV → Bool
 | .fn (.func k') 0 _ 0 _ => Nat.beq k' k
 | _ => false
theorem MW {k : Nat} {x : AV} (h : jk k x = true) : zd x (i7 k) := by
 unfold jk at h
 split at h
 ·obtain rfl := Nat.eq_of_beq_eq_true h
  exact ⟨rfl, rfl, rfl, x5, x5⟩
 ·cases h
def tD (x : Nt) : Prop := (-99999999 ≤ x.n ∧ x.n ≤ 99999999) ∧ (0 < x.d ∧ x.d ≤ 99999999)
theorem Yq {a b : Int} (ha : -99999999 ≤ a ∧ a ≤ 99999999) (hb : -99999999 ≤ b ∧ b ≤ 99999999) : -10000000000000000 ≤ a * b ∧ a * b ≤ 10000000000000000 := by
 have h : (a * b).natAbs ≤ 99999999 * 99999999 := by rw [Int.natAbs_mul]; exact Nat.mul_le_mul (by omega) (by omega)
 omega
def mN : List AV → Option (List zN × AV)
 | [.agg 2 p_x, .agg 2 p_y] => some ([.b (Y3 (p_x 0) && Y3 (p_x 1)), .b (Y3 (p_y 0) && Y3 (p_y 1)), .p (tD (⟨AV.int (p_x 0), AV.int (p_x 1)⟩ : Nt)), .p (tD (⟨AV.int (p_y 0), AV.int (p_y 1)⟩ : Nt))], xz (⟨(⟨AV.int (p_x 0), AV.int (p_x 1)⟩ : Nt).n * (⟨AV.int (p_y 0), AV.int (p_y 1)⟩ : Nt).d + (⟨AV.int (p_y 0), AV.int (p_y 1)⟩ : Nt).n * (⟨AV.int (p_x 0), AV.int (p_x 1)⟩ : Nt).d, (⟨AV.int (p_x 0), AV.int (p_x 1)⟩ : Nt).d * (⟨AV.int (p_y 0), AV.int (p_y 1)⟩ : Nt).d⟩ : Nt))
 | _ => none
theorem Jo (x : Nt) (y : Nt) (h1 : tD x) (h2 : tD y) :
 Zy [AV.agg 2 (zR.enc x), AV.agg 2 (zR.enc y)] → bF (dK (Nt.n x * Nt.d y)) (bF (dK (Nt.n y * Nt.d x)) (bF (dK (Nt.n x * Nt.d y + Nt.n y * Nt.d x)) (bF (dK (Nt.d x * Nt.d y)) (2 = 2 ∧ (kI ∧ Nt.n x * Nt.d y + Nt.n y * Nt.d x = Nt.n (Nt.mk (Nt.n x * Nt.d y + Nt.n y * Nt.d x) (Nt.d x * Nt.d y))) ∧ kI ∧ Nt.d x * Nt.d y = Nt.d (Nt.mk (Nt.n x * Nt.d y + Nt.n y * Nt.d x) (Nt.d x * Nt.d y)))))) := by
 delta bF dK kI
 intro hb
 simp only [sS, dS]
 unfold tD at h1 h2
 have m1 := Yq (a := x.n) (b := y.d) h1.1 ⟨by omega, h2.2.2⟩
 have m2 := Yq (a := y.n) (b := x.d) h2.1 ⟨by omega, h1.2.2⟩
 have m3 := Yq (a := x.d) (b := y.d) ⟨by omega, h1.2.2⟩ ⟨by omega, h2.2.2⟩
 exact ⟨⟨by omega, by omega⟩, ⟨by omega, by omega⟩, ⟨by omega, by omega⟩, ⟨by omega, by omega⟩⟩
theorem HS (x : Nt) (y : Nt) (h1 : tD x) (h2 : tD y) : zu Tryz.prog [] 61 [xz x, xz y] (xz (⟨x.n * y.d + y.n * x.d, x.d * y.d⟩ : Nt)) :=
 zv (T := T0) (an := .auto) mixed zq (Eq.mp (by kernel_rfl) (Jo x y h1 h2))
theorem Hs : zP Tryz.prog [] 61 mN := by
 intro xs ps r h hp
 unfold mN at h
 split at h
 ·skip
  rename_i p_x p_y
  cases h
  obtain ⟨q0, q1, q2, q3, -⟩ := Zo hp
  exact weaken (ys := [xz (⟨AV.int (p_x 0), AV.int (p_x 1)⟩ : Nt), xz (⟨AV.int (p_y 0), AV.int (p_y 1)⟩ : Nt)]) ⟨Zs (x := .agg 2 p_x) (α := Nt) q0, Zs (x := .agg 2 p_y) (α := Nt) q1, trivial⟩ (HS (⟨AV.int (p_x 0), AV.int (p_x 1)⟩ : Nt) (⟨AV.int (p_y 0), AV.int (p_y 1)⟩ : Nt) q2 q3)
 ·cases h
def mg : List AV → Option (List zN × AV)
 | [.agg 2 p_x, .agg 2 p_y] => some ([.b (Y3 (p_x 0) && Y3 (p_x 1)), .b (Y3 (p_y 0) && Y3 (p_y 1)), .p (tD (⟨AV.int (p_x 0), AV.int (p_x 1)⟩ : Nt)), .p (tD (⟨AV.int (p_y 0), AV.int (p_y 1)⟩ : Nt))], xz (⟨(⟨AV.int (p_x 0), AV.int (p_x 1)⟩ : Nt).n * (⟨AV.int (p_y 0), AV.int (p_y 1)⟩ : Nt).n, (⟨AV.int (p_x 0), AV.int (p_x 1)⟩ : Nt).d * (⟨AV.int (p_y 0), AV.int (p_y 1)⟩ : Nt).d⟩ : Nt))
 | _ => none
theorem iE (x : Nt) (y : Nt) (h1 : tD x) (h2 : tD y) :
 Zy [AV.agg 2 (zR.enc x), AV.agg 2 (zR.enc y)] → bF (dK (Nt.n x * Nt.n y)) (bF (dK (Nt.d x * Nt.d y)) (2 = 2 ∧ (kI ∧ Nt.n x * Nt.n y = Nt.n (Nt.mk (Nt.n x * Nt.n y) (Nt.d x * Nt.d y))) ∧ kI ∧ Nt.d x * Nt.d y = Nt.d (Nt.mk (Nt.n x * Nt.n y) (Nt.d x * Nt.d y)))) := by
 delta bF dK kI
 intro hb
 simp only [sS, dS]
 unfold tD at h1 h2
 have m1 := Yq (a := x.n) (b := y.n) h1.1 ⟨by omega, h2.1.2⟩
 have m2 := Yq (a := y.n) (b := x.d) h2.1 ⟨by omega, h1.2.2⟩
 have m3 := Yq (a := x.d) (b := y.d) ⟨by omega, h1.2.2⟩ ⟨by omega, h2.2.2⟩
 exact ⟨⟨by omega, by omega⟩, ⟨by omega, by omega⟩⟩
theorem gY (x : Nt) (y : Nt) (h1 : tD x) (h2 : tD y) : zu Tryz.prog [] 76 [xz x, xz y] (xz (⟨x.n * y.n, x.d * y.d⟩ : Nt)) :=
 zv (T := T0) (an := .auto) mixed zq (Eq.mp (by kernel_rfl) (iE x y h1 h2))
theorem Hx : zP Tryz.prog [] 76 mg := by
 intro xs ps r h hp
 unfold mg at h
 split at h
 ·skip
  rename_i p_x p_y
  cases h
  obtain ⟨q0, q1, q2, q3, -⟩ := Zo hp
  exact weaken (ys := [xz (⟨AV.int (p_x 0), AV.int (p_x 1)⟩ : Nt), xz (⟨AV.int (p_y 0), AV.int (p_y 1)⟩ : Nt)]) ⟨Zs (x := .agg 2 p_x) (α := Nt) q0, Zs (x := .agg 2 p_y) (α := Nt) q1, trivial⟩ (gY (⟨AV.int (p_x 0), AV.int (p_x 1)⟩ : Nt) (⟨AV.int (p_y 0), AV.int (p_y 1)⟩ : Nt) q2 q3)
 ·cases h
def VI (f : Int → Int → Int) (x y : Pt) : Int :=
 bif Zl (zY x.n * zY y.d) != 0 then Zl (zY x.n * zY y.d) else bif Zl (zY y.n * zY x.d) != 0 then Zl (zY y.n * zY x.d)
 else bif Zl (f (zY x.n * zY y.d) (zY y.n * zY x.d)) != 0 then Zl (f (zY x.n * zY y.d) (zY y.n * zY x.d)) else Zl (zY x.d * zY y.d)
def qP (f : Int → Int → Int) (x y : Pt) : zj := bif VI f x y == 0 then xx (f (zY x.n * zY y.d) (zY y.n * zY x.d)) (zY x.d * zY y.d) else []
def Tx (x : Pt) : Prop := ZQ x.n = 0 ∧ ZQ x.d = 0 ∧ zY x.d ≠ 0
theorem wz {f : Int → Int → Int} {a b : zj} (ha : ZQ a = 0) (hb : ZQ b = 0) : Yc f a b = Zl (f (zY a) (zY b)) ∧ y6 f a b = YK (f (zY a) (zY b)) := by
 have hE : zc a b = 0 := by unfold zc; rw [ha, hb]; rfl
 obtain ⟨e1, e2⟩ := V5 (f := f) hE
 exact ⟨e2, e1⟩
theorem WV {n : Int} (h : Zl n = 0) : ZQ (YK n) = 0 ∧ zY (YK n) = n ∧ (YK n).length ≤ 400 := by
 have e : YK n = Lib.itoa n := by unfold YK; rw [h]; rfl
 have hi : ZQ (Lib.itoa n) = 0 := by rw [YT, h]
 rw [e]
 exact ⟨hi, (zb n).2, by have := (yV hi).2.1; omega⟩
theorem ir {f : Int → Int → Int} {x y : Pt} (h1 : Tx x) (h2 : Tx y) :
 x.n.length ≤ 4294967280 ∧ y.d.length ≤ 4294967280 ∧
  (Yc (fun x1 x2 => x1 * x2) x.n y.d ≠ 0 →
   (Yc (fun x1 x2 => x1 * x2) x.n y.d ≠ 0 → 2 = [AV.junk, AV.junk].length ∧ [] = qP f x y ∧ Yc (fun x1 x2 => x1 * x2) x.n y.d = VI f x y) ∧
   (Yc (fun x1 x2 => x1 * x2) x.n y.d = 0 → 2 = [AV.junk, AV.junk].length ∧ [] = qP f x y ∧ Yc f [] [] = VI f x y)) ∧
  (Yc (fun x1 x2 => x1 * x2) x.n y.d = 0 → y.n.length ≤ 4294967280 ∧ x.d.length ≤ 4294967280 ∧
   (Yc (fun x1 x2 => x1 * x2) y.n x.d ≠ 0 → 2 = [AV.junk, AV.junk].length ∧ [] = qP f x y ∧ Yc (fun x1 x2 => x1 * x2) y.n x.d = VI f x y) ∧
   (Yc (fun x1 x2 => x1 * x2) y.n x.d = 0 → (y6 (fun x1 x2 => x1 * x2) x.n y.d).length ≤ 4294967280 ∧ (y6 (fun x1 x2 => x1 * x2) y.n x.d).length ≤ 4294967280 ∧
    (Yc f (y6 (fun x1 x2 => x1 * x2) x.n y.d) (y6 (fun x1 x2 => x1 * x2) y.n x.d) ≠ 0 → 2 = [AV.junk, AV.junk].length ∧ [] = qP f x y ∧ Yc f (y6 (fun x1 x2 => x1 * x2) x.n y.d) (y6 (fun x1 x2 => x1 * x2) y.n x.d) = VI f x y) ∧
    (Yc f (y6 (fun x1 x2 => x1 * x2) x.n y.d) (y6 (fun x1 x2 => x1 * x2) y.n x.d) = 0 → x.d.length ≤ 4294967280 ∧ y.d.length ≤ 4294967280 ∧
     (Yc (fun x1 x2 => x1 * x2) x.d y.d ≠ 0 → 2 = [AV.junk, AV.junk].length ∧ [] = qP f x y ∧ Yc (fun x1 x2 => x1 * x2) x.d y.d = VI f x y) ∧
     (Yc (fun x1 x2 => x1 * x2) x.d y.d = 0 → ZQ (y6 f (y6 (fun x1 x2 => x1 * x2) x.n y.d) (y6 (fun x1 x2 => x1 * x2) y.n x.d)) = 0 ∧ ZQ (y6 (fun x1 x2 => x1 * x2) x.d y.d) = 0 ∧ zY (y6 (fun x1 x2 => x1 * x2) x.d y.d) ≠ 0 ∧
      2 = [AV.junk, AV.junk].length ∧ xx (zY (y6 f (y6 (fun x1 x2 => x1 * x2) x.n y.d) (y6 (fun x1 x2 => x1 * x2) y.n x.d))) (zY (y6 (fun x1 x2 => x1 * x2) x.d y.d)) = qP f x y ∧ 0 = VI f x y)))) := by
 obtain ⟨a1, a2, a3⟩ := h1
 obtain ⟨b1, b2, b3⟩ := h2
 have l1 := (yV a1).2.1
 have l2 := (yV a2).2.1
 have l3 := (yV b1).2.1
 have l4 := (yV b2).2.1
 obtain ⟨p1, p2⟩ := wz (f := fun x1 x2 => x1 * x2) a1 b2
 obtain ⟨p3, p4⟩ := wz (f := fun x1 x2 => x1 * x2) b1 a2
 obtain ⟨p5, p6⟩ := wz (f := fun x1 x2 => x1 * x2) a2 b2
 have bad : ∀ e : Int, e ≠ 0 → e = VI f x y → 2 = [AV.junk, AV.junk].length ∧ [] = qP f x y ∧ e = VI f x y := fun e h0 h => ⟨rfl, by unfold qP; rw [← h, beq_eq_false_iff_ne.2 h0]; rfl, h⟩
 rw [p1, p2, p3, p4, p5, p6]
 refine ⟨by omega, by omega, fun h => ⟨fun _ => bad _ h ?_, fun h0 => absurd h0 h⟩, fun g1 => ⟨by omega, by omega, fun h => bad _ h ?_, fun g2 => ?_⟩⟩
 ·unfold VI; rw [bne_iff_ne.2 h]; rfl
 ·unfold VI; rw [g1, bne_iff_ne.2 h]; rfl
 obtain ⟨r1, r2, r3⟩ := WV g1
 obtain ⟨r4, r5, r6⟩ := WV g2
 obtain ⟨p7, p8⟩ := wz (f := f) r1 r4
 rw [r2, r5] at p7 p8
 rw [p7, p8]
 refine ⟨by omega, by omega, fun h => bad _ h ?_, fun g3 => ⟨by omega, by omega, fun h => bad _ h ?_, fun g4 => ?_⟩⟩
 ·unfold VI; rw [g1, g2, bne_iff_ne.2 h]; rfl
 ·unfold VI; rw [g1, g2, g3]; rfl
 obtain ⟨s1, s2, s3⟩ := WV g3
 obtain ⟨s4, s5, s6⟩ := WV g4
 have e : VI f x y = 0 := by unfold VI; rw [g1, g2, g3, g4]; rfl
 rw [s2, s5]
 exact ⟨s1, s4, Int.mul_ne_zero a3 b3, rfl, by unfold qP; rw [e]; rfl, e.symm⟩
noncomputable def GT (G : List (Nat × Obj)) : Tb := (((((Xh G).plus 78 W9).plus 64 tv).plus 118 rL).plus 79 Vo).body Tryz.prog [(58, .auto)]
theorem Ot {G : List (Nat × Obj)} (hG : zO G) : zz Tryz.prog (GT G) := zz.body mixed (zz.plus (zz.plus (zz.plus (zz.plus zq (Ua hG)) (QN hG)) (MF hG)) (S8 hG)) _
def Mp : List AV → Option (List zN × AV)
 | [.agg 2 p_x, .agg 2 p_y, .xq 1 c_cf 0] => some ([.b (Zk (p_x 0) && Zk (p_x 1)), .b (Zk (p_y 0) && Zk (p_y 1)), .b (jk 64 (c_cf 0)), .p (Tx (⟨AV.bytes (p_x 0), AV.bytes (p_x 1)⟩ : Pt)), .p (Tx (⟨AV.bytes (p_y 0), AV.bytes (p_y 1)⟩ : Pt))], .tup 2 (zw [.str (qP (· + ·) (⟨AV.bytes (p_x 0), AV.bytes (p_x 1)⟩ : Pt) (⟨AV.bytes (p_y 0), AV.bytes (p_y 1)⟩ : Pt)), .i (VI (· + ·) (⟨AV.bytes (p_x 0), AV.bytes (p_x 1)⟩ : Pt) (⟨AV.bytes (p_y 0), AV.bytes (p_y 1)⟩ : Pt))]))
 | _ => none
theorem ip (G : List (Nat × Obj)) (x : Pt) (y : Pt) (h1 : Tx x) (h2 : Tx y) :
 let q1 := (Yc (fun (x1 x2 : Int) => x1 * x2) (Pt.n x) (Pt.d y) != iZ); let q2 := (True ∧ bA #[] = qP (fun (x1 x2 : Int) => x1 + x2) x y); let q3 := (bA #[]); let q4 := (y6 (fun (x1 x2 : Int) => x1 * x2) (Pt.n x) (Pt.d y)); let q5 := (y6 (fun (x1 x2 : Int) => x1 * x2) (Pt.n y) (Pt.d x)); let q6 := (y6 (fun (x1 x2 : Int) => x1 + x2) q4 q5); let q7 := (y6 (fun (x1 x2 : Int) => x1 * x2) (Pt.d x) (Pt.d y)); Zy [AV.agg 2 (zR.enc x), AV.agg 2 (zR.enc y), AV.xq 1 (fun (x : Nat) => AV.fn (Fn.func (64 :
 FuncId)) 0 (fun (x : Nat) => AV.junk) 0 fun (x : Nat) => AV.junk) 0] → lN (Pt.n x) ≤ nM ∧ lN (Pt.d y) ≤ nM ∧ zZ q1 (zZ q1 (j2 ∧ q2 ∧ kI ∧ Yc (fun (x1 x2 : Int) => x1 * x2) (Pt.n x) (Pt.d y) = VI (fun (x1 x2 : Int) => x1 + x2) x y) (0 ≤ nM ∧ 0 ≤ nM ∧ j2 ∧ q2 ∧ kI ∧ Yc (fun (x1 x2 : Int) => x1 + x2) q3 q3 = VI (fun (x1 x2 : Int) => x1 + x2) x y)) (lN (Pt.n y) ≤ nM ∧ lN (Pt.d x) ≤ nM ∧ zZ (Yc (fun (x1 x2
 : Int) => x1 * x2) (Pt.n y) (Pt.d x) != iZ) (j2 ∧ q2 ∧ kI ∧ Yc (fun (x1 x2 : Int) => x1 * x2) (Pt.n y) (Pt.d x) = VI (fun (x1 x2 : Int) => x1 + x2) x y) (lN q4 ≤ nM ∧ lN q5 ≤ nM ∧ zZ (Yc (fun (x1 x2 : Int) => x1 + x2) q4 q5 != iZ) (j2 ∧ q2 ∧ kI ∧ Yc (fun (x1 x2 : Int) => x1 + x2) q4 q5 = VI (fun (x1 x2 : Int) => x1 + x2) x y) (lN (Pt.d x) ≤ nM ∧ lN (Pt.d y) ≤ nM ∧ zZ (Yc (fun (x1 x2 : Int) => x1 * x2)
 (Pt.d x) (Pt.d y) != iZ) (j2 ∧ q2 ∧ kI ∧ Yc (fun (x1 x2 : Int) => x1 * x2) (Pt.d x) (Pt.d y) = VI (fun (x1 x2 : Int) => x1 + x2) x y) (ZQ q6 = iZ ∧ ZQ q7 = iZ ∧ zY q7 ≠ iZ ∧ j2 ∧ (True ∧ xx (zY q6) (zY q7) = qP (fun (x1 x2 : Int) => x1 + x2) x y) ∧ kI ∧ iZ = VI (fun (x1 x2 : Int) => x1 + x2) x y)))) := by
 delta bA nM kI j2 lN iZ
 dsimp only
 intro hb
 simp only [sS, dS]
 exact ir h1 h2
theorem HC {G : List (Nat × Obj)} (hG : zO G) (x : Pt) (y : Pt) (h1 : Tx x) (h2 : Tx y) : zu Tryz.prog G 102 [xz x, xz y, .xq 1 (fun _ => i7 64) 0] (.tup 2 (zw [.str (qP (· + ·) x y), .i (VI (· + ·) x y)])) :=
 zv (T := GT G) (an := .auto) mixed (Ot hG) (Eq.mp (by kernel_rfl) (ip G x y h1 h2))
theorem H5 {G : List (Nat × Obj)} (hG : zO G) : zP Tryz.prog G 102 Mp := by
 intro xs ps r h hp
 unfold Mp at h
 split at h
 ·skip
  rename_i p_x p_y c_cf
  cases h
  obtain ⟨q0, q1, q2, q3, q4, -⟩ := Zo hp
  exact weaken (ys := [xz (⟨AV.bytes (p_x 0), AV.bytes (p_x 1)⟩ : Pt), xz (⟨AV.bytes (p_y 0), AV.bytes (p_y 1)⟩ : Pt), .xq 1 (fun _ => i7 64) 0]) ⟨Zs (x := .agg 2 p_x) (α := Pt) q0, Zs (x := .agg 2 p_y) (α := Pt) q1, ⟨rfl, rfl, MW q2⟩, trivial⟩ (HC hG (⟨AV.bytes (p_x 0), AV.bytes (p_x 1)⟩ : Pt) (⟨AV.bytes (p_y 0), AV.bytes (p_y 1)⟩ : Pt) q3 q4)
 ·cases h
def qQ (x y : Pt) : Int := bif Zl (zY x.n * zY y.n) != 0 then Zl (zY x.n * zY y.n) else Zl (zY x.d * zY y.d)
def lM (x y : Pt) : zj := bif qQ x y == 0 then xx (zY x.n * zY y.n) (zY x.d * zY y.d) else []
def MN : List AV → Option (List zN × AV)
 | [.agg 2 p_x, .agg 2 p_y] => some ([.b (Zk (p_x 0) && Zk (p_x 1)), .b (Zk (p_y 0) && Zk (p_y 1)), .p (Tx (⟨AV.bytes (p_x 0), AV.bytes (p_x 1)⟩ : Pt)), .p (Tx (⟨AV.bytes (p_y 0), AV.bytes (p_y 1)⟩ : Pt))], .tup 2 (zw [.str (lM (⟨AV.bytes (p_x 0), AV.bytes (p_x 1)⟩ : Pt) (⟨AV.bytes (p_y 0), AV.bytes (p_y 1)⟩ : Pt)), .i (qQ (⟨AV.bytes (p_x 0), AV.bytes (p_x 1)⟩ : Pt) (⟨AV.bytes (p_y 0), AV.bytes (p_y 1)⟩ : Pt))]))
 | _ => none
theorem Iq (G : List (Nat × Obj)) (x : Pt) (y : Pt) (h1 : Tx x) (h2 : Tx y) :
 let q1 := (True ∧ bA #[] = lM x y); let q2 := (y6 (fun (x1 x2 : Int) => x1 * x2) (Pt.n x) (Pt.n y)); let q3 := (y6 (fun (x1 x2 : Int) => x1 * x2) (Pt.d x) (Pt.d y)); Zy [AV.agg 2 (zR.enc x), AV.agg 2 (zR.enc y)] → lN (Pt.n x) ≤ nM ∧ lN (Pt.n y) ≤ nM ∧ zZ (Yc (fun (x1 x2 : Int) => x1 * x2) (Pt.n x) (Pt.n y) != iZ) (j2 ∧ q1 ∧ kI ∧ Yc (fun (x1 x2 : Int) => x1 * x2) (Pt.n x) (Pt.n y) = qQ x y) (lN (Pt.d x) ≤ nM ∧ lN (Pt.d y) ≤
 nM ∧ zZ (Yc (fun (x1 x2 : Int) => x1 * x2) (Pt.d x) (Pt.d y) != iZ) (j2 ∧ q1 ∧ kI ∧ Yc (fun (x1 x2 : Int) => x1 * x2) (Pt.d x) (Pt.d y) = qQ x y) (ZQ q2 = iZ ∧ ZQ q3 = iZ ∧ zY q3 ≠ iZ ∧ j2 ∧ (True ∧ xx (zY q2) (zY q3) = lM x y) ∧ kI ∧ iZ = qQ x y)) := by
 delta bA nM kI j2 lN iZ
 dsimp only
 intro hb
 simp only [sS, dS]
 obtain ⟨a1, a2, a3⟩ := h1
 obtain ⟨b1, b2, b3⟩ := h2
 have l1 := (yV a1).2.1
 have l2 := (yV a2).2.1
 have l3 := (yV b1).2.1
 have l4 := (yV b2).2.1
 obtain ⟨p1, p2⟩ := wz (f := fun x1 x2 => x1 * x2) a1 b1
 obtain ⟨p5, p6⟩ := wz (f := fun x1 x2 => x1 * x2) a2 b2
 have bad : ∀ e : Int, e ≠ 0 → e = qQ x y → 2 = [AV.junk, AV.junk].length ∧ [] = lM x y ∧ e = qQ x y := fun e h0 h => ⟨rfl, by unfold lM; rw [← h, beq_eq_false_iff_ne.2 h0]; rfl, h⟩
 rw [p1, p2, p5, p6]
 refine ⟨by omega, by omega, fun h => bad _ h ?_, fun g1 => ⟨by omega, by omega, fun h => bad _ h ?_, fun g4 => ?_⟩⟩
 ·unfold qQ; rw [bne_iff_ne.2 h]; rfl
 ·unfold qQ; rw [g1]; rfl
 obtain ⟨s1, s2, s3⟩ := WV g1
 obtain ⟨s4, s5, s6⟩ := WV g4
 have e : qQ x y = 0 := by unfold qQ; rw [g1, g4]; rfl
 rw [s2, s5]
 exact ⟨s1, s4, Int.mul_ne_zero a3 b3, rfl, by unfold lM; rw [e]; rfl, e.symm⟩
theorem I1 {G : List (Nat × Obj)} (hG : zO G) (x : Pt) (y : Pt) (h1 : Tx x) (h2 : Tx y) : zu Tryz.prog G 77 [xz x, xz y] (.tup 2 (zw [.str (lM x y), .i (qQ x y)])) :=
 zv (T := ((Xh G).plus 78 W9).plus 79 Vo) (an := .auto) mixed (zz.plus (zz.plus zq (Ua hG)) (S8 hG)) (Eq.mp (by kernel_rfl) (Iq G x y h1 h2))
theorem Ha {G : List (Nat × Obj)} (hG : zO G) : zP Tryz.prog G 77 MN := by
 intro xs ps r h hp
 unfold MN at h
 split at h
 ·skip
  rename_i p_x p_y
  cases h
  obtain ⟨q0, q1, q2, q3, -⟩ := Zo hp
  exact weaken (ys := [xz (⟨AV.bytes (p_x 0), AV.bytes (p_x 1)⟩ : Pt), xz (⟨AV.bytes (p_y 0), AV.bytes (p_y 1)⟩ : Pt)]) ⟨Zs (x := .agg 2 p_x) (α := Pt) q0, Zs (x := .agg 2 p_y) (α := Pt) q1, trivial⟩ (I1 hG (⟨AV.bytes (p_x 0), AV.bytes (p_x 1)⟩ : Pt) (⟨AV.bytes (p_y 0), AV.bytes (p_y 1)⟩ : Pt) q2 q3)
 ·cases h
end Go.Te
