/- integer: Divide, Gcd. -/
import Derived.Test.YthbpnknhfokadaaGreatDoorThIi
set_option linter.unusedSimpArgs false
set_option linter.unusedVariables false
namespace Go.Te
open Go Go.Sx Go.Proofs Go.Ar
set_option maxRecDepth 100000
set_option maxHeartbeats 4000000
theorem mH (m t : Bool) {A B q r : Int} (hB : 0 < B) (h : r + B * q = bif !(m == t) then -A else A) (h0 : 0 ≤ r) (h1 : r < B) :
  Int.fdiv (bif m then -A else A) (bif t then -B else B) = q ∧ Int.fmod (bif m then -A else A) (bif t then -B else B) = bif t then -r else r := by
 cases t with
 | false =>
  refine SX ?_ (.inl ⟨hB, h0, h1⟩)
  cases m <;> simpa using h
 | true =>
  refine SX ?_ (.inr ⟨by simp; omega, by simp; omega, by simp; omega⟩)
  cases m <;> simp [Int.neg_mul] at h ⊢ <;> omega
theorem wi (n : Bool) (k : Nat) : yC n (zU 1000000000 k) = bif n then -(k : Int) else k := by unfold yC; rw [xr]
theorem MW {a b : zj} (h : Xv a b ≠ 0) : YX a b = [] ∧ Vl a b = [] := by
 unfold YX Vl
 rw [beq_eq_false_iff_ne.2 h]
 exact ⟨rfl, rfl⟩
theorem qT {a b : zj} (h : Xv a b = 0) : YX a b = Lib.itoa (Int.fdiv (zY a) (zY b)) ∧ Vl a b = Lib.itoa (Int.fmod (zY a) (zY b)) := by
 unfold YX Vl
 rw [h]
 exact ⟨rfl, rfl⟩
theorem TB {a : zj} (h : ZR a = 0) : (zY a).natAbs < 10 ^ 300 := by
 obtain ⟨h1, h2⟩ := yW.1 h
 rw [X6 h1] at h2
 exact (Zx (k := 300) (u := (zY a).natAbs) (by omega)).1 h2
theorem jp {b : zj} (h : Zy b = true) (h0 : b ≠ [48]) : zY b ≠ 0 := fun e => h0 (by
 rw [← Yh h, e]
 have : Lib.itoa ((0 : Nat) : Int) = [48] := by rw [Go.Ar.Z6, zA (by omega)]; rfl
 exact this)
theorem rD {a : zj} (h : Zy a = true) : (bif zk a then -((zY a).natAbs : Int) else ((zY a).natAbs : Int)) = zY a := by
 have := Y8 h
 rw [wi] at this
 exact this
theorem Nv (l : List Int) : Zn (AV.agg 2 (zw [AV.v ((Value.agg #[Value.bool false, Value.slice none 0 0]).cells.getD 0 undef), AV.xl false 1 l.length fun i j => AV.v (Value.int IntKind.i64 (l.getD i 0))])) = (⟨false, l⟩ : Big) := xF false l
theorem Qe (l : List Int) : yV Big (AV.agg 2 (zw [AV.v ((Value.agg #[Value.bool false, Value.slice none 0 0]).cells.getD 0 undef), AV.xl false 1 l.length fun i j => AV.v (Value.int IntKind.i64 (l.getD i 0))])) = true := Yd false l
def SY : List AV → Option (List zN × AV)
 | [.str a, .str b] => some ([.p (a.length ≤ 4294967280), .p (b.length ≤ 4294967280)], .tup 3 (zw [.str (YX a b), .str (Vl a b), .i (Xv a b)]))
 | _ => none
theorem Mh (G : List (Nat × Obj)) (a : List UInt8) (b : List UInt8) (hla : a.length ≤ 4294967280) (hlb : b.length ≤ 4294967280) :
 let q1 := ((True ∧ bA #[] = YX a b) ∧ bA #[] = Vl a b); let q3 := (bif leB (lZ a) (18 : Int) && leB (lZ b) (18 : Int) then zY b else iZ); let q2 := (DB.db (q3 ≠ iZ)); let q5 := (bif leB (lZ a) (18 : Int) && leB (lZ b) (18 : Int) then zY a else iZ); let q4 := (Int.tdiv q5 q3); let q7 := (Int.tmod q5 q3 != iZ); let q6 := (!zr true q7 || zr true q7); let q8 := (Int.tmod q5 q3); let q9 := (Int.tdiv q5 q3 -
 iO); let q10 := (Int.tmod q5 q3 + bif leB (lZ a) (18 : Int) && leB (lZ b) (18 : Int) then zY b else iZ); let q12 := (zU 1000000000 (Int.natAbs (zY a))); let q11 := (xI q12); let q15 := (zU 1000000000 (Int.natAbs (zY b))); let q14 := (xI q15); let q13 := (zf Int q14); let q16 := (zu q11); let q18 := (zu q14); let q17 := (∀ (x : Int), List.Mem x q18 → (0 :
 Int) ≤ x ∧ x < iB); let q19 := (!zr true !zk a == zk b || zr true !zk a == zk b); let q22 := (zv iB q16); let q23 := (zv iB q18); let q21 := (zU 1000000000 (Int.toNat q22 % Int.toNat q23)); let q20 := (lN q21); let q26 := (zU 1000000000 (Int.toNat q22 / Int.toNat q23)); let q25 := (lN q26); let q24 := (AV.xl false 1 q25 fun i j => aI (gD q26 i zV.dflt)); let q27 := (zu q24); let q28 := (zu (AV.xl true 1 1 (Sx.rowAt [fun (x : Nat) => aI iO]))); let
 q29 := (AV.xl false 1 q20 fun i j => aI (gD q21 i zV.dflt)); let q30 := (zu q29); let q32 := (zU 1000000000 (Int.toNat (zv iB q27 + zv iB q28))); let q31 := (AV.agg 2 (zw [AV.v (Value.bool !zk a == zk b), xI q32])); let q35 := (Zn q31); let q34 := (Big.l q35); let q37 := (zU 1000000000 (Int.toNat (zv iB q18 - zv iB q30))); let q36 := (AV.agg 2 (zw [AV.v (Value.bool (zk b)), AV.xl false 1
 (lN q37) fun i j => aI (gD q37 i zV.dflt)])); let q39 := (Zn q36); let q38 := (Big.l q39); let q41 := (yC (Big.neg q35) q34); let q40 := (ZM q41 != iZ); let q42 := (yC (Big.neg q39) q38); let q43 := (3 = lN [AV.junk, AV.junk, AV.junk] ∧ q1 ∧ kI ∧ (4 : Int) = Xv a b); let q44 := (AV.agg 2 (zw [AV.v (Value.bool !zk a == zk b), AV.xl false 1 q25 fun i j => aI (gD q26 i zV.dflt)])); let q46 := (Zn q44); let q45 := (Big.l q46); let q47 := (AV.agg 2 (zw [AV.v (Value.bool (zk b)),
 AV.xl false 1 q20 fun i j => aI (gD q21 i zV.dflt)])); let q49 := (Zn q47); let q48 := (Big.l q49); let q51 := (yC (Big.neg q46) q45); let q50 := (ZM q51 != iZ); let q52 := (yC (Big.neg q49) q48); Zw [AV.str a, AV.str b] → lN a ≤ nM ∧ lN b ≤ nM ∧ zZ (zc a b != iZ) (3 = lN [AV.junk, AV.junk, AV.junk] ∧ q1 ∧ kI ∧ zc a b = Xv a b) (zZ (b == bA #[(48 : UInt8)]) (3 = lN [AV.junk, AV.junk, AV.junk] ∧ q1 ∧ kI ∧
 (12 : Int) = Xv a b) (Zy a = true ∧ Zy b = true ∧ (18 : Int) = (18 : Int) ∧ zZ (leB (lZ a) (18 : Int) && leB (lZ b) (18 : Int)) (bF q2 (bF (dK q4) (bF q2 (bF q6 (bF q6 (bF q6 (bF q6 (bF (!Int.tmod q5 q3 != iZ || zr true q7) (zZ (bif Int.tmod q5 q3 != iZ then !zg q8 iZ == zg q3 iZ else false) (bF (dK q9) (bF (dK q10) ((iN ≤ Int.tdiv q5 q3 - iO ∧ Int.tdiv q5 q3 - iO ≤ iX)
 ∧ ((iN ≤ Int.tmod q5 q3 + bif leB (lZ a) (18 : Int) && leB (lZ b) (18 : Int) then zY b else iZ) ∧ q10 ≤ iX) ∧ 3 = lN [AV.junk, AV.junk, AV.junk] ∧ ((True ∧ Lib.itoa q9 = YX a b) ∧ Lib.itoa q10 = Vl a b) ∧ kI ∧ iZ = Xv a b))) ((iN ≤ Int.tdiv q5 q3 ∧ Int.tdiv q5 q3 ≤ iX) ∧ (iN ≤ Int.tmod q5 q3 ∧ Int.tmod q5 q3 ≤ iX) ∧ 3 = lN [AV.junk, AV.junk,
 AV.junk] ∧ ((True ∧ Lib.itoa q4 = YX a b) ∧ Lib.itoa q8 = Vl a b) ∧ kI ∧ iZ = Xv a b)))))))))) (Zy a = true ∧ lN a ≤ 100000000 ∧ Zy b = true ∧ lN b ≤ 100000000 ∧ bF (zf Int q11) (bF q13 ((∀ (x : Int), List.Mem x q16 → iZ ≤ x ∧ x < iB) ∧ q17 ∧ zi q16 = zu q11 ∧ zi q18 = zu q14 ∧ lN q18 ≠ 0 ∧ lN q16 ≤ 100000000 ∧ lN q18 ≤ 100000000 ∧ bF q19 (bF q19 (bF (!!zk a == zk b || zr true !zk a == zk b) (zZ
 (bif !zk a == zk b then zg iZ (cI q20) else false) (bF (zf Int q24) ((∀ (x : Int), List.Mem x q27 → iZ ≤ x ∧ x < iB) ∧ (∀ (x : Int), List.Mem x (zu (AV.xl true 1 1 (Sx.rowAt [fun (x : Nat) => aI iO]))) → iZ ≤ x ∧ x < iB) ∧ lN q27 ≤ 1000000000 ∧ lN q28 ≤ 1000000000 ∧ bF q13 (bF (zf Int q29) (q17 ∧ (∀ (x : Int), List.Mem x q30 → iZ ≤ x ∧ x < iB) ∧ lN q18 ≤ 1000000000 ∧ lN q30 ≤ 1000000000 ∧ zv iB q30 ≤ zv
 iB q18 ∧ bF (yV Big q31) ((∀ (x : Int), let q33 := (zU 1000000000 (Int.toNat (zv iB q27 + zv iB (zu (AV.xl true 1 1 (Sx.rowAt [fun (x : Nat) => aI iO])))))); List.Mem x (Big.l (Zn (AV.agg 2 (zw [AV.v (Value.bool !zk a == zk b), xI q33])))) → iZ ≤ x ∧ x < iB) ∧ zi q34 = Big.l q35 ∧ lN q34 ≤ 100000000 ∧ bF (yV Big q36) ((∀ (x : Int), List.Mem x q38 → iZ ≤ x ∧ x <
 iB) ∧ zi q38 = Big.l q39 ∧ lN q38 ≤ 100000000 ∧ bF (!zr false q40 || zr false q40) (bF (!!ZM q41 != iZ || zr false q40) (zZ (bif ZM q41 != iZ then true else ZM q42 != iZ) q43 (3 = lN [AV.junk, AV.junk, AV.junk] ∧ ((True ∧ Ym q41 = YX a b) ∧ Ym q42 = Vl a b) ∧ kI ∧ iZ = Xv a b))))))))) (bF (yV Big q44) ((∀ (x : Int), List.Mem x q45 → iZ ≤ x ∧ x < iB) ∧ zi q45 = Big.l q46 ∧ lN q45 ≤ 100000000 ∧ zZ
 (yV Big q47) ((∀ (x : Int), List.Mem x q48 → iZ ≤ x ∧ x < iB) ∧ zi q48 = Big.l q49 ∧ lN q48 ≤ 100000000 ∧ bF (!zr false q50 || zr false q50) (bF (!!ZM q51 != iZ || zr false q50) (zZ (bif ZM q51 != iZ then true else ZM q52 != iZ) q43 (3 = lN [AV.junk, AV.junk, AV.junk] ∧ ((True ∧ Ym q51 = YX a b) ∧ Ym q52 = Vl a b) ∧ kI ∧ iZ = Xv a b)))) False)))))))))) := by
 delta bF dK bA xI nM cI kI lZ lN gD iZ iO iX iN iB aI
 dsimp only
 intro hb
 have e0 : (zV.dflt : Int) = 0 := rfl
 simp only [↓yz, ↓Zj, row_one]
 simp only [sS, dS, e0, x3, xZ, xF, Yd, X5, XV, wy, XU, Xd, Md, xr, Lh, Nv, Qe]
 refine ⟨by omega, by omega, fun hE => ?_, fun hE => zX.2 ⟨fun c0 => ?_, fun c0 => ?_⟩⟩
 ·have e : Xv a b = zc a b := by unfold Xv; rw [bne_iff_ne.2 hE]; rfl
  obtain ⟨d1, d2⟩ := MW (a := a) (b := b) (by rw [e]; exact hE)
  exact ⟨rfl, ⟨d1.symm, d2.symm⟩, e.symm⟩
 ·have e : Xv a b = 12 := by unfold Xv; rw [hE, c0]; rfl
  obtain ⟨d1, d2⟩ := MW (a := a) (b := b) (by rw [e]; decide)
  exact ⟨rfl, ⟨d1.symm, d2.symm⟩, e.symm⟩
 have e : Xv a b = 0 := by unfold Xv; rw [hE, c0]; rfl
 obtain ⟨d1, d2⟩ := qT e
 obtain ⟨hA, hB⟩ := Y4 hE
 obtain ⟨a1, a2, a3⟩ := yw hA
 obtain ⟨b1, b2, b3⟩ := yw hB
 have a4 := TB hA
 have b4 := TB hB
 have hv := jp b3 (beq_eq_false_iff_ne.1 c0)
 rw [d1, d2, e]
 refine ⟨a3, b3, zX.2 ⟨fun c => ?_, fun c => ?_⟩⟩
 ·rw [c]
  rw [Bool.and_eq_true] at c
  have x1 := Kh a3 c.1
  have x2 := Kh b3 c.2
  simp only [cond_true]
  obtain ⟨f1, f2, f3, f4⟩ := mS (a := zY a) (b := zY b) hv
  refine ⟨hv, ⟨by omega, by omega⟩, hv, zX.2 ⟨fun cc => ?_, fun cc => ?_⟩⟩
  ·obtain ⟨g1, g2⟩ := f1 cc
   rw [g1, g2]
   exact ⟨⟨by omega, by omega⟩, ⟨by omega, by omega⟩, ⟨by omega, by omega⟩, ⟨by omega, by omega⟩, rfl, ⟨rfl, rfl⟩, trivial⟩
  ·obtain ⟨g1, g2⟩ := f2 cc
   rw [g1, g2]
   exact ⟨⟨by omega, by omega⟩, ⟨by omega, by omega⟩, rfl, ⟨rfl, rfl⟩, trivial⟩
 have wa := rD a3
 have wb := rD b3
 have la := WY a1
 have lb := WY b1
 have hB0 : 0 < (zY b).natAbs := by omega
 have hdm := Nat.div_add_mod (zY a).natAbs (zY b).natAbs
 have hml := Nat.mod_lt (zY a).natAbs hB0
 have hdl : (zY a).natAbs / (zY b).natAbs ≤ (zY a).natAbs := Nat.div_le_self _ _
 have lb0 : (zU 1000000000 (zY b).natAbs).length ≠ 0 := fun e => by have := Xg (b := 1000000000) (by omega) e; omega
 have lq := Z7 (b := 1000000000) (by omega) hdl
 have lr := Z7 (b := 1000000000) (by omega) (Nat.le_of_lt hml)
 rw [← wa, ← wb]
 rw [show (bif zk a then -((zY a).natAbs : Int) else ((zY a).natAbs : Int)).natAbs = (zY a).natAbs from by rw [wa], show (bif zk b then -((zY b).natAbs : Int) else ((zY b).natAbs : Int)).natAbs = (zY b).natAbs from by rw [wb]]
 clear wa wb e d1 d2 hv a1 b1 c
 generalize hAA : (zY a).natAbs = A at *
 generalize hBB : (zY b).natAbs = B at *
 generalize zk a = m at *
 generalize zk b = t at *
 have hdmI : (B : Int) * ((A / B : Nat) : Int) + ((A % B : Nat) : Int) = (A : Int) := by exact_mod_cast hdm
 generalize A / B = Q at *
 generalize A % B = R at *
 refine ⟨a3, by omega, b3, by omega, (Zf _).1, (Zf _).1, (Zf _).2, (Zf _).2, lb0, by omega, by omega, zX.2 ⟨fun cc => ?_, fun cc => ?_⟩⟩
 ·rw [Bool.and_eq_true, zq] at cc
  have hr0 : R ≠ 0 := fun e => by have := cc.2; rw [e, Za] at this; exact absurd this (by decide)
  have hB2 : 2 * Q ≤ B * Q := Nat.mul_le_mul_right _ (by omega)
  have eq : ((Q : Int) + 1).toNat = Q + 1 := by omega
  have er : ((B : Int) - (R : Int)).toNat = B - R := by omega
  obtain ⟨g1, g2⟩ := mH m t (A := A) (B := B) (q := -((Q + 1 : Nat) : Int)) (r := ((B - R : Nat) : Int)) (by omega) (by
   rw [cc.1, cond_true, Int.mul_neg, Int.natCast_add, Int.mul_add]; omega) (by omega) (by omega)
  have lq2 := Z7 (b := 1000000000) (m := Q + 1) (n := A) (by omega) (by omega)
  have lr2 := Z7 (b := 1000000000) (m := B - R) (n := B) (by omega) (by omega)
  simp only [eq, er, wi]
  rw [g1, g2, cc.1, cond_true]
  obtain ⟨r1, r2⟩ := ZP (n := -((Q + 1 : Nat) : Int)) (k := 300) (by omega) (by omega) (by rw [Int.natAbs_neg, Int.natAbs_natCast]; omega)
  obtain ⟨r3, r4⟩ := ZP (n := bif t then -((B - R : Nat) : Int) else ((B - R : Nat) : Int)) (k := 300) (by omega) (by omega) (by cases t <;> simp only [cond_true, cond_false, Int.natAbs_neg, Int.natAbs_natCast] <;> omega)
  rw [r1, r2, r3, r4]
  have o1 : Zp 1000000000 [1] := .one (by omega) (by omega)
  refine ⟨(Zf _).1, o1, by omega, by simp, (Zf _).1, (Zf _).1, by omega, by omega, by omega, (Zf _).1, (Zf _).2, by omega, (Zf _).1, (Zf _).2, by omega, ?_⟩
  exact ⟨rfl, ⟨rfl, rfl⟩, trivial⟩
 ·have hq : Int.fdiv (bif m then -(A : Int) else (A : Int)) (bif t then -(B : Int) else (B : Int)) = (bif !(m == t) then -(Q : Int) else (Q : Int)) ∧
    Int.fmod (bif m then -(A : Int) else (A : Int)) (bif t then -(B : Int) else (B : Int)) = bif t then -(R : Int) else (R : Int) := by
   refine mH m t (by omega) ?_ (by omega) (by omega)
   cases hs : !(m == t) with
   | false => simp only [cond_false]; omega
   | true =>
    rw [hs, Bool.true_and] at cc
    have hr0 : R = 0 := by
     refine Decidable.byContradiction fun hn => ?_
     have h1 : (zU 1000000000 R).length ≠ 0 := fun e => hn (Xg (b := 1000000000) (by omega) e)
     rw [(zq _ _).2 (by omega)] at cc
     cases cc
    rw [hr0] at hdmI ⊢
    simp only [cond_true, Int.mul_neg]
    omega
  obtain ⟨g1, g2⟩ := hq
  simp only [wi]
  rw [g1, g2]
  obtain ⟨r1, r2⟩ := ZP (n := bif !(m == t) then -(Q : Int) else (Q : Int)) (k := 300) (by omega) (by omega) (by cases !(m == t) <;> simp only [cond_true, cond_false, Int.natAbs_neg, Int.natAbs_natCast] <;> omega)
  obtain ⟨r3, r4⟩ := ZP (n := bif t then -(R : Int) else (R : Int)) (k := 300) (by omega) (by omega) (by cases t <;> simp only [cond_true, cond_false, Int.natAbs_neg, Int.natAbs_natCast] <;> omega)
  rw [r1, r2, r3, r4]
  exact ⟨(Zf _).1, (Zf _).2, by omega, (Zf _).1, (Zf _).2, by omega, rfl, ⟨rfl, rfl⟩, trivial⟩
theorem JJ {G : List (Nat × Obj)} (hG : zo G) (a : List UInt8) (b : List UInt8) (hla : a.length ≤ 4294967280) (hlb : b.length ≤ 4294967280) : zt Tryz.prog G 115 [.str a, .str b] (.tup 3 (zw [.str (YX a b), .str (Vl a b), .i (Xv a b)])) :=
 zW (T := jk G) (an := .auto) mixed (xa hG) (Eq.mp (by kernel_rfl) (Mh G a b hla hlb))
theorem MP {G : List (Nat × Obj)} (hG : zo G) : zp Tryz.prog G 115 SY := by
 intro xs ps r h hp
 unfold SY at h
 split at h
 ·skip
  rename_i a b
  cases h
  obtain ⟨q0, q1, -⟩ := ZI hp
  exact weaken (ys := [.str a, .str b]) ⟨zS _, zS _, trivial⟩ (JJ hG a b q0 q1)
 ·cases h
structure wL where
 x : Int
 y : Int
structure vI where
 x : Nat
 y : Nat
def Me (a b : zj) : yt :=
 .two .auto (.two .auto (.two (.two .auto (.two .auto (.two (.two (.one (.loop wL (fun σ z => [(7, .i z.x), (8, .i z.y)]) (fun σ z => []) 0 (fun σ z => Nat.gcd z.x.natAbs z.y.natAbs = yM a b ∧ z.x.natAbs ≤ 1000000000000000000 ∧ z.y.natAbs ≤ 1000000000000000000) (fun σ z => z.y.natAbs) .auto)) .auto) .auto))) (.two .auto (.two (.one (.loop vI (fun σ z => [(10, Ze (zU 1000000000 z.x)), (11, Ze (zU 1000000000 z.y))]) (fun σ z => []) 0 (fun σ z => Nat.gcd z.x z.y = yM a b ∧ (zU 1000000000 z.x).length ≤ 100000000 ∧ (zU 1000000000 z.y).length ≤ 100000000) (fun σ z => z.y) .auto)) .auto))))
def S7 : List AV → Option (List zN × AV)
 | [.str a, .str b] => some ([.p (a.length ≤ 4294967280), .p (b.length ≤ 4294967280)], .tup 2 (zw [.str (bif zc a b != 0 then [] else Lib.itoa (yM a b : Int)), .i (zc a b)]))
 | _ => none
theorem Ku (G : List (Nat × Obj)) (a : List UInt8) (b : List UInt8) (hla : a.length ≤ 4294967280) (hlb : b.length ≤ 4294967280) :
 let q2 := (zU 1000000000 (Int.natAbs (zY a))); let q3 := (zU 1000000000 (Int.natAbs (zY b))); Zw [AV.str a, AV.str b] → lN a ≤ nM ∧ lN b ≤ nM ∧ zZ (zc a b != iZ) (j2 ∧ (True ∧ bA #[] = bif zc a b != iZ then [] else Lib.itoa (cI (yM a b))) ∧ kI ∧ zc a b = zc a b) (Zy a = true ∧ Zy b = true ∧ (18 : Int) = (18 : Int) ∧ zZ (leB (lZ a) (18 : Int) && leB (lZ b) (18 : Int)) ((∃ (z : wL),
 ((Nat.gcd (Int.natAbs (wL.x z)) (Int.natAbs (wL.y z)) = yM a b ∧ Int.natAbs (wL.x z) ≤ 1000000000000000000 ∧ Int.natAbs (wL.y z) ≤ 1000000000000000000) ∧ (kI ∧ (bif leB (lZ a) (18 : Int) && leB (lZ b) (18 : Int) then zY a else iZ) = wL.x z) ∧ kI ∧ (bif leB (lZ a) (18 : Int) && leB (lZ b) (18 : Int) then zY b else iZ) = wL.y z) ∧ True) ∧ ∀ (z : wL), let q1 := (if -wL.x z > wL.x z then -wL.x z else wL.x z); Nat.gcd (Int.natAbs (wL.x z)) (Int.natAbs (wL.y z)) =
 yM a b ∧ Int.natAbs (wL.x z) ≤ 1000000000000000000 ∧ Int.natAbs (wL.y z) ≤ 1000000000000000000 → zZ (wL.y z != iZ) (bF (DB.db (wL.y z ≠ iZ)) (∃ (z' : wL), (((Nat.gcd (Int.natAbs (wL.x z')) (Int.natAbs (wL.y z')) = yM a b ∧ Int.natAbs (wL.x z') ≤ 1000000000000000000 ∧ Int.natAbs (wL.y z') ≤ 1000000000000000000) ∧ Int.natAbs (wL.y z') < Int.natAbs (wL.y z)) ∧ (kI ∧ wL.y z = wL.x z') ∧ kI ∧ Int.tmod (wL.x z) (wL.y z) = wL.y z') ∧ True)) (bF (dK (-wL.x z)) (((iN ≤ if -wL.x z
 > wL.x z then -wL.x z else wL.x z) ∧ q1 ≤ iX) ∧ j2 ∧ (True ∧ Lib.itoa q1 = bif zc a b != iZ then [] else Lib.itoa (cI (yM a b))) ∧ kI ∧ iZ = zc a b))) (Zy a = true ∧ lN a ≤ 100000000 ∧ Zy b = true ∧ lN b ≤ 100000000 ∧ (∃ (z : vI), ((Nat.gcd (vI.x z) (vI.y z) = yM a b ∧ lN (zU 1000000000 (vI.x z)) ≤ 100000000 ∧ lN (zU 1000000000 (vI.y z)) ≤ 100000000) ∧ zd (AV.xl false 1 (lN q2) fun i j => aI (gD q2 i
 zV.dflt)) (xI (zU 1000000000 (vI.x z))) ∧ (false = true → false = true) ∧ 1 = 1 ∧ lN (zU 1000000000 (vI.y z)) = lN q3 ∧ ∀ (i j : Nat), i < lN q3 → j < 1 → kI ∧ gD q3 i zV.dflt = gD (zU 1000000000 (vI.y z)) i zV.dflt) ∧ True) ∧ ∀ (z : vI), let q4 := (lN (zU 1000000000 (vI.y z))); let q6 := (lN (zU 1000000000 (vI.x z))); let q5 := (AV.xl false 1 q6 fun i j => aI (List.getD
 (zU 1000000000 (vI.x z)) i zV.dflt)); let q7 := (AV.xl false 1 q4 fun i j => aI (gD (zU 1000000000 (vI.y z)) i zV.dflt)); let q8 := (zu q5); let q9 := (zu q7); let q10 := (zU 1000000000 (Int.toNat (zv iB q8) % Int.toNat (zv iB q9))); let q11 := (AV.agg 2 (zw [AV.v (Array.getD (Value.cells (Value.agg #[Value.bool false, Value.slice (X3 Addr) 0 0])) 0 undef), AV.xl false 1 q6 fun i j => aI (gD (zU 1000000000 (vI.x z)) i zV.dflt)])); let q13 := (Zn q11); let q12 := (Big.l q13);
 let q14 := (yC (Big.neg q13) q12); Nat.gcd (vI.x z) (vI.y z) = yM a b ∧ lN (zU 1000000000 (vI.x z)) ≤ 100000000 ∧ lN (zU 1000000000 (vI.y z)) ≤ 100000000 → zZ (zg iZ (cI q4)) (bF (zf Int q5) (bF (zf Int q7) ((∀ (x : Int), List.Mem x q8 → iZ ≤ x ∧ x < iB) ∧ (∀ (x : Int), List.Mem x q9 → iZ ≤ x ∧ x < iB) ∧ zi q8 = zu q5 ∧ zi q9 = zu q7 ∧ lN q9 ≠ 0 ∧ lN q8 ≤ 100000000 ∧ lN q9 ≤ 100000000 ∧ ∃ (z' : vI), (((Nat.gcd (vI.x z') (vI.y z') = yM a b ∧
 lN (zU 1000000000 (vI.x z')) ≤ 100000000 ∧ lN (zU 1000000000 (vI.y z')) ≤ 100000000) ∧ vI.y z' < vI.y z) ∧ zd q7 (xI (zU 1000000000 (vI.x z'))) ∧ (false = true → false = true) ∧ 1 = 1 ∧ lN (zU 1000000000 (vI.y z')) = lN q10 ∧ ∀ (i j : Nat), i < lN q10 → j < 1 → kI ∧ gD q10 i zV.dflt = gD (zU 1000000000 (vI.y z')) i zV.dflt) ∧ True))) (bF (yV Big q11) ((∀ (x : Int),
 List.Mem x q12 → iZ ≤ x ∧ x < iB) ∧ zi q12 = Big.l q13 ∧ lN q12 ≤ 100000000 ∧ j2 ∧ (True ∧ Ym q14 = bif zc a b != iZ then [] else Lib.itoa (cI (yM a b))) ∧ kI ∧ ZM q14 = zc a b)))) := by
 delta bF dK bA xI nM cI kI j2 lZ lN gD iZ iX iN iB aI
 dsimp only
 intro hb
 have e0 : (zV.dflt : Int) = 0 := rfl
 simp only [↓yz, ↓Zj, row_one]
 simp only [sS, dS, e0, x3, xZ, xF, Yd, X5, XV, wy, XU, Xd, Md, xr, Lh, Nv, Qe]
 refine ⟨by omega, by omega, fun hE => ⟨rfl, by rw [bne_iff_ne.2 hE]; rfl⟩, fun hE => ?_⟩
 obtain ⟨hA, hB⟩ := Y4 hE
 obtain ⟨a1, a2, a3⟩ := yw hA
 obtain ⟨b1, b2, b3⟩ := yw hB
 have la := WY a1
 have lb := WY b1
 have gl : yM a b ≤ (zY a).natAbs + (zY b).natAbs := by
  unfold yM
  by_cases h : (zY a).natAbs = 0
  ·rw [h, Nat.gcd_zero_left]; omega
  ·exact Nat.le_trans (Nat.le_of_dvd (by omega) (Nat.gcd_dvd_left _ _)) (by omega)
 have a4 := TB hA
 have b4 := TB hB
 have gl3 : yM a b < 10 ^ 300 := by
  unfold yM
  by_cases h : (zY a).natAbs = 0
  ·rw [h, Nat.gcd_zero_left]; exact b4
  ·exact Nat.lt_of_le_of_lt (Nat.le_of_dvd (by omega) (Nat.gcd_dvd_left _ _)) a4
 rw [hE]
 simp only [bne_self_eq_false, cond_false]
 refine ⟨a3, b3, zX.2 ⟨fun c => ?_, fun c => ?_⟩⟩
 ·rw [c]
  rw [Bool.and_eq_true] at c
  have x1 := Kh a3 c.1
  have x2 := Kh b3 c.2
  simp only [cond_true]
  refine ⟨⟨⟨zY a, zY b⟩, ⟨rfl, by simp only; omega, by simp only; omega⟩, rfl, rfl⟩, fun z ⟨z1, z2, z3⟩ => ⟨fun hy => ⟨hy, ⟨z.y, z.x.tmod z.y⟩, ⟨⟨?_, z3, ?_⟩, ?_⟩, rfl, rfl⟩, fun hy => ?_⟩⟩
  ·rw [Int.natAbs_tmod, ← Uj (y := z.y.natAbs) (by omega), z1]
  ·rw [Int.natAbs_tmod]
   have : z.x.natAbs % z.y.natAbs ≤ z.x.natAbs := Nat.mod_le _ _
   omega
  ·rw [Int.natAbs_tmod]
   exact Nat.mod_lt _ (by omega)
  ·rw [hy, Int.natAbs_zero, Nat.gcd_zero_right] at z1
   rw [qK, z1]
   rw [z1] at z2
   exact ⟨⟨by omega, by omega⟩, ⟨by omega, by omega⟩, rfl, rfl, trivial⟩
 ·refine ⟨a3, by omega, b3, by omega, ⟨⟨(zY a).natAbs, (zY b).natAbs⟩, ⟨rfl, by simp only; omega, by simp only; omega⟩, zS _, fun h => h, rfl, fun _ _ _ _ => rfl⟩, fun z ⟨z1, z2, z3⟩ => ⟨fun hy => ?_, fun hy => ?_⟩⟩
  ·have hy0 : z.y ≠ 0 := fun e => by rw [e, Za] at hy; exact absurd hy (by decide)
   have hm : z.x % z.y < z.y := Nat.mod_lt _ (by omega)
   have hlen := Z7 (b := 1000000000) (m := z.x % z.y) (n := z.y) (by omega) (by omega)
   exact ⟨(Zf _).1, (Zf _).1, (Zf _).2, (Zf _).2, by omega, z2, z3, ⟨z.y, z.x % z.y⟩, ⟨⟨by rw [← Uj hy0]; exact z1, z3, by simp only; omega⟩, hm⟩, zS _, fun h => h, rfl, fun _ _ _ _ => rfl⟩
  ·have hy0 := Xg (b := 1000000000) (n := z.y) (by omega) (by omega)
   rw [hy0, Nat.gcd_zero_right] at z1
   rw [wi, cond_false, z1]
   rw [z1] at z2
   obtain ⟨r1, r2⟩ := ZP (n := (yM a b : Int)) (k := 300) (by omega) (by omega) (by rw [Int.natAbs_natCast]; exact gl3)
   rw [r1, r2]
   exact ⟨(Zf _).1, (Zf _).2, z2, rfl, rfl, rfl⟩
theorem jg {G : List (Nat × Obj)} (hG : zo G) (a : List UInt8) (b : List UInt8) (hla : a.length ≤ 4294967280) (hlb : b.length ≤ 4294967280) : zt Tryz.prog G 96 [.str a, .str b] (.tup 2 (zw [.str (bif zc a b != 0 then [] else Lib.itoa (yM a b : Int)), .i (zc a b)])) :=
 zW (T := jk G) (an := Me a b) mixed (xa hG) (Eq.mp (by kernel_rfl) (Ku G a b hla hlb))
theorem nN {G : List (Nat × Obj)} (hG : zo G) : zp Tryz.prog G 96 S7 := by
 intro xs ps r h hp
 unfold S7 at h
 split at h
 ·skip
  rename_i a b
  cases h
  obtain ⟨q0, q1, -⟩ := ZI hp
  exact weaken (ys := [.str a, .str b]) ⟨zS _, zS _, trivial⟩ (jg hG a b q0 q1)
 ·cases h
end Go.Te

namespace Go.Te
open Go Go.Sx Go.Proofs Go.Ar
set_option maxRecDepth 100000
set_option maxHeartbeats 4000000
def yy (a : zj) : zj := bif zJ a then zB a else [49]
theorem Yt (n : Int) : ZR (Lib.itoa n) = ZM n := by
 obtain ⟨h1, h2⟩ := zC n
 have h3 := X6 h1
 rw [h2] at h3
 unfold ZR ZM
 rw [h1, h3]
 rfl
theorem MJ {a : zj} (h : zh a = 0) : ZR (zn a) = 0 ∧ ZR (yy a) = 0 ∧ zY (zn a) = zL a ∧ zY (yy a) = (zP a : Int) := by
 obtain ⟨h1, h2, h3, _⟩ := Zr.1 h
 have hi : Zy (zn a) = true := by
  unfold ZO at h1
  rw [Bool.and_eq_true] at h1
  exact h1.1
 refine ⟨yW.2 ⟨hi, h2⟩, ?_, rfl, ?_⟩
 all_goals
  unfold yy
  cases hs : zJ a with
  | false =>
   first
    | (show ZR [49] = 0; exact yW.2 (by decide))
    | (unfold zP; rw [hs]; show zY [49] = ((1 : Nat) : Int); decide)
  | true =>
   unfold ZO at h1
   rw [hs] at h1
   have hd : Z2 (zB a) = true := by
    revert h1
    cases Z2 (zB a) <;> simp
   obtain ⟨i1, i2⟩ := wE hd
   first
    | exact yW.2 ⟨i1, Nat.le_trans (wv _).1 h3⟩
    | (unfold zP; rw [hs]; exact i2)
theorem JV (s : zj) : s.length ≤ (zR s).length + 1 := by
 unfold zR
 cases zk s with
 | true => rw [cond_true, List.length_drop]; omega
 | false => rw [cond_false]; omega
theorem SH (g : Nat) : (Lib.itoa (g : Int) == [49]) = Nat.beq g 1 := by
 rw [Go.Ar.Z6, Bool.eq_iff_iff, beq_iff_eq, Nat.beq_eq]
 constructor
 ·intro h
  have := congrArg zD h
  rw [Z5] at this
  exact this
 ·intro h
  rw [h, zA (by decide)]; rfl
theorem gm {a b : zj} (ha : zh a = 0) (hb : zh b = 0) : YF (fun x1 x2 => x1 * x2) (zn a) (yy b) = ZM (zL a * (zP b : Int)) ∧ y6 (fun x1 x2 => x1 * x2) (zn a) (yy b) = Ym (zL a * (zP b : Int)) := by
 obtain ⟨a1, a2, a3, a4⟩ := MJ ha
 obtain ⟨b1, b2, b3, b4⟩ := MJ hb
 have hE : zc (zn a) (yy b) = 0 := by unfold zc; rw [a1, b2]; rfl
 obtain ⟨e1, e2⟩ := VI (f := fun x1 x2 => x1 * x2) hE
 rw [a3, b4] at e1 e2
 exact ⟨e2, e1⟩
theorem kB {n m : Int} (hn : ZM n = 0) (hm : ZM m = 0) : yD (Ym n) (Ym m) = xR n m ∧ zc (Ym n) (Ym m) = 0 ∧ (Ym n).length ≤ 4294967280 ∧ (Ym m).length ≤ 4294967280 := by
 have e : ∀ k, ZM k = 0 → Ym k = Lib.itoa k := fun k h => by unfold Ym; rw [h]; rfl
 have l : ∀ k, ZM k = 0 → (Lib.itoa k).length ≤ 4294967280 := fun k h => by
  rw [Xz]
  have : ¬ 300 < x5 k := fun e => by unfold ZM at h; rw [(ZY _ _).2 e] at h; cases h
  split <;> omega
 rw [e n hn, e m hm]
 have hE : zc (Lib.itoa n) (Lib.itoa m) = 0 := by
  unfold zc
  rw [Yt, hn, Yt, hm]
  rfl
 refine ⟨?_, hE, l n hn, l m hm⟩
 unfold yD
 rw [hE, (zC n).2, (zC m).2]
 rfl
theorem yi {a : zj} (h : z8 a = true) : zh a = 0 ∧ (zL a).natAbs ≤ 99999999 ∧ zP a ≤ 99999999 := by
 obtain ⟨h1, h2, h3, h4⟩ := XF.1 h
 obtain ⟨g1, g2, g3⟩ := xN.1 h1
 have hr : zh a = 0 := by
  unfold z8 at h
  rw [Bool.and_eq_true, Bool.and_eq_true, beq_iff_eq] at h
  exact h.1.1
 have b := W1 g1 (k := 8) h2
 rw [show 10 ^ 8 = 100000000 from by decide] at b
 refine ⟨hr, by rw [uC]; omega, ?_⟩
 rw [(sE (a := a)).2]
 cases hs : zJ (zR a) with
 | false => show 1 ≤ 99999999; decide
 | true =>
  have b := W1 (g3 hs).1 (k := 8) h3
  rw [show 10 ^ 8 = 100000000 from by decide] at b
  simp only [cond_true]
  omega
noncomputable def Hc (G : List (Nat × Obj)) : Tb := ((((WS G).plus 94 QQ).plus 55 Vr).plus 95 (YL fun s => .str (zR s))).plus 96 S7
theorem PM {G : List (Nat × Obj)} (hG : zo G) : zz Tryz.prog (Hc G) := zz.plus (zz.plus (zz.plus (zz.plus zQ (zp.mono J6)) (zp.mono sM)) (zp.mono vU)) (nN hG)
def ws : List AV → Option (List zN × AV)
 | [.str a] => some ([.p (a.length ≤ 9223372036854775807)], .tup 2 (zw [.agg 2 (zw [.str (bif zh a == 0 then zn a else []), .str (bif zh a == 0 then yy a else [])]), .i (zh a)]))
 | _ => none
theorem ng (G : List (Nat × Obj)) (a : List UInt8) (hl : a.length ≤ 9223372036854775807) :
 let q2 := (True ∧ 2 = 2 ∧ (bA #[] = bif zh a == iZ then zn a else []) ∧ bA #[] = bif zh a == iZ then yy a else []); let q1 := (j2 ∧ q2 ∧ kI ∧ (11 : Int) = zh a); let q4 := (bif ZO a then bif zJ a then zB a else [(49 : UInt8)] else []); let q3 := (j2 ∧ (True ∧ 2 = 2 ∧ ((bif ZO a then zn a else []) = bif zh a == iZ then zn a else []) ∧ q4 = bif zh a == iZ then yy a else []) ∧
 kI ∧ iZ = zh a); let q7 := (lZ (zR (bif ZO a then zn a else []))); let q6 := (zg (300 : Int) q7); let q5 := (!zr false q6 || zr false q6); let q8 := (ByteArray.data (ByteArray.mk #[(49 : UInt8)])); let q9 := (zc (bif ZO a then zn a else []) q4 != iZ); Zw [AV.str a] → lN a ≤ nX ∧ zZ (!ZO a) q1 (lN a ≤ nX ∧ zZ (z8 a) q3 (bF q5 (bF q5 (bF q5 (bF (!!zg (300 : Int) q7 || zr false q6) (zZ (bif zg (300 : Int) q7 then true else zg (300 : Int)
 (lZ q4)) (j2 ∧ q2 ∧ kI ∧ (4 : Int) = zh a) (zZ (q4 == Array.toList q8) q3 (lN (bif ZO a then zn a else []) ≤ nM ∧ lN q4 ≤ nM ∧ bF (!zr false q9 || zr false q9) (bF (!!zc (bif ZO a then zn a else []) q4 != iZ || zr false q9) (zZ (bif zc (bif ZO a then zn a else []) q4 != iZ then true else !(bif zc (bif ZO a then zn a else []) q4 != iZ then [] else Lib.itoa (cI (yM (bif ZO a then zn a else []) q4))) == Array.toList
 q8) q1 q3)))))))))) := by
 delta bF bA nX nM cI kI j2 lZ lN iZ
 dsimp only
 intro hb
 simp only [sS, dS, xw]
 have hFO := XG a
 have hden : (bif zJ a then zB a else [49]) = yy a := rfl
 obtain ⟨o1, o2, o3, o4, o5, o6, o7⟩ := YH a
 refine ⟨hl, zX.2 ⟨fun c => ?_, fun c => ?_⟩⟩
 ·have c : ZO a = false := by simpa using c
  rw [c] at hFO
  rw [rk hFO.symm]
  exact ⟨rfl, ⟨rfl, rfl⟩, rfl⟩
 have c : ZO a = true := by simpa using c
 have hFO' : Wx a = true := hFO.symm.trans c
 simp only [c, cond_true, hden]
 have fin : zh a = 0 → 2 = [AV.junk, AV.junk].length ∧ ((zn a = bif zh a == 0 then zn a else []) ∧ yy a = bif zh a == 0 then yy a else []) ∧ 0 = zh a := fun h => by rw [h]; exact ⟨rfl, ⟨rfl, rfl⟩, rfl⟩
 have bad : ∀ e : Int, e ≠ 0 → zh a = e → 2 = [AV.junk, AV.junk].length ∧ (([] = bif zh a == 0 then zn a else []) ∧ [] = bif zh a == 0 then yy a else []) ∧ e = zh a := fun e h0 h => by
  rw [h, beq_eq_false_iff_ne.2 h0]; exact ⟨rfl, ⟨rfl, rfl⟩, rfl⟩
 have hlen : (zR (zn a)).length = (zn (zR a)).length := by rw [← (S9 (zn a)).2, o5]
 have hcd := vY a
 have hdd := RN a
 refine ⟨hl, zX.2 ⟨fun k => fin (yi k).1, fun k => zX.2 ⟨fun k2 => bad 4 (by decide) (oH hFO' ?_), fun k2 => zX.2 ⟨fun k3 => ?_, fun k3 => ?_⟩⟩⟩⟩
 ·rw [Bool.or_eq_true, zq, zq, hlen] at k2
  rcases k2 with k2 | k2
  ·exact .inl (by omega)
  ·refine .inr ?_
   rw [← o2]
   unfold yy at k2
   cases hs : zJ a with
   | true => rw [hs, cond_true] at k2; omega
   | false => rw [hs, cond_false] at k2; exact absurd k2 (by decide)
 ·have hs : zJ a = false := by
   cases hs : zJ a with
   | false => rfl
   | true =>
    unfold yy at k3
    rw [hs, cond_true] at k3
    have := (xN.1 hFO').2.2 (by rw [← o3]; exact hs)
    rw [← o2] at this
    exact absurd (eq_of_beq k3) this.2.2
  rw [Bool.or_eq_false_iff, Bool.eq_false_iff, Ne, zq, hlen] at k2
  exact fin (Ry hFO' (by omega) (by rw [← o3]; exact hs))
 ·have hs : zJ a = true := by
   cases hs : zJ a with
   | true => rfl
   | false => unfold yy at k3; rw [hs] at k3; cases k3
  have hdS : yy a = zB a := by unfold yy; rw [hs]; rfl
  rw [hdS] at k2 bad fin ⊢
  rw [Bool.or_eq_false_iff, Bool.eq_false_iff, Bool.eq_false_iff, Ne, Ne, zq, zq, hlen] at k2
  have e2 := tZ hFO' ⟨by omega, by rw [← o2]; omega⟩ (by rw [← o3]; exact hs)
  have g := (xN.1 hFO').2.2 (by rw [← o3]; exact hs)
  rw [← o2] at g e2
  obtain ⟨i1, i2⟩ := wE g.1
  have hi : Zy (zn a) = true := by
   have := c
   unfold ZO at this
   rw [Bool.and_eq_true] at this
   exact this.1
  have hE : zc (zn a) (zB a) = 0 := by
   have l2 := (wv (zB a)).1
   have q1 : ZR (zn a) = 0 := yW.2 ⟨hi, by rw [o5]; omega⟩
   have q2 : ZR (zB a) = 0 := yW.2 ⟨i1, by omega⟩
   unfold zc
   rw [q1, q2]; rfl
  have hg : yM (zn a) (zB a) = Nat.gcd (zD (zn (zR a))) (zD (zB a)) := by
   unfold yM
   rw [i2, Int.natAbs_natCast, ← uC]
   rfl
  have hge := JV (zn a)
  rw [hE]
  simp only [bne_self_eq_false, cond_false, Bool.false_or, SH, hg]
  refine ⟨by omega, by omega, zX.2 ⟨fun k4 => bad 11 (by decide) ?_, fun k4 => ?_⟩⟩
  ·rw [e2, show Nat.beq (Nat.gcd (zD (zn (zR a))) (zD (zB a))) 1 = false by rw [Bool.not_eq_true'] at k4; exact k4]; rfl
  ·exact fin (by rw [e2, show Nat.beq (Nat.gcd (zD (zn (zR a))) (zD (zB a))) 1 = true by rw [Bool.not_eq_false'] at k4; exact k4]; rfl)
theorem km {G : List (Nat × Obj)} (hG : zo G) (a : List UInt8) (hl : a.length ≤ 9223372036854775807) : zt Tryz.prog G 57 [.str a] (.tup 2 (zw [.agg 2 (zw [.str (bif zh a == 0 then zn a else []), .str (bif zh a == 0 then yy a else [])]), .i (zh a)])) :=
 zW (T := Hc G) (an := .auto) mixed (PM hG) (Eq.mp (by kernel_rfl) (ng G a hl))
theorem vJ {G : List (Nat × Obj)} (hG : zo G) : zp Tryz.prog G 57 ws := by
 intro xs ps r h hp
 unfold ws at h
 split at h
 ·skip
  rename_i a
  cases h
  obtain ⟨q0, -⟩ := ZI hp
  exact weaken (ys := [.str a]) ⟨zS _, trivial⟩ (km hG a q0)
 ·cases h
theorem LJ (G : List (Nat × Obj)) (a : List UInt8) (hl : a.length ≤ 9223372036854775807) :
 Zw [AV.str a] → lN a ≤ nX ∧ kI ∧ zh a = zh a := by
 delta nX kI lN
 intro hb
 simp only [sS, dS, xw]
 exact hl
theorem Jv {G : List (Nat × Obj)} (hG : zo G) (a : List UInt8) (hl : a.length ≤ 9223372036854775807) : zt Tryz.prog G 43 [.str a] (.i (zh a)) :=
 zW (T := (WS G).plus 57 ws) (an := .auto) mixed (zz.plus zQ (vJ hG)) (Eq.mp (by kernel_rfl) (LJ G a hl))
def vG (a b : zj) : Int := bif zh a != 0 then zh a else bif zh b != 0 then zh b else bif ZM (zL a * (zP b : Int)) != 0 then ZM (zL a * (zP b : Int)) else ZM (zL b * (zP a : Int))
def RA (a b : zj) : Int := bif vG a b == 0 then xR (zL a * (zP b : Int)) (zL b * (zP a : Int)) else 0
noncomputable def IA (G : List (Nat × Obj)) : Tb := (((((WS G).plus 57 ws).plus 55 Vr).plus 78 Wb).plus 59 sI).plus 56 tv
theorem qV {G : List (Nat × Obj)} (hG : zo G) : zz Tryz.prog (IA G) := zz.plus (zz.plus (zz.plus (zz.plus (zz.plus zQ (vJ hG)) (zp.mono sM)) (Ua hG)) (OJ hG)) (zp.mono Qq)
noncomputable def H7 (G : List (Nat × Obj)) : Tb := (IA G).body Tryz.prog [(58, .auto)]
theorem oG {G : List (Nat × Obj)} (hG : zo G) : zz Tryz.prog (H7 G) := zz.body mixed (qV hG) _
theorem LD (G : List (Nat × Obj)) (a : List UInt8) (b : List UInt8) (hla : a.length ≤ 9223372036854775807) (hlb : b.length ≤ 9223372036854775807) :
 let q1 := ((bif z8 a then zL a else iZ) * bif z8 b then (cI (zP b)) else iZ); let q2 := ((bif z8 b then zL b else iZ) * bif z8 a then (cI (zP a)) else iZ); let q4 := (True ∧ kI ∧ iZ = RA a b); let q5 := (bif zh a == iZ then zn a else []); let q6 := (bif zh b == iZ then yy b else []); let q7 := (YF (fun (x1 x2 : Int) => x1 * x2) q5 q6 != iZ); let q8 := (bA #[]); let q9 := (bif zh b == iZ then zn b else []); let q10 := (bif zh a == (0 :
 Int) then yy a else []); let q11 := (y6 (fun (x1 x2 : Int) => x1 * x2) q5 q6); let q12 := (y6 (fun (x1 x2 : Int) => x1 * x2) q9 q10); let q3 := (lN a ≤ nX ∧ zZ (zh a != iZ) (j2 ∧ q4 ∧ kI ∧ zh a = vG a b) (lN b ≤ nX ∧ zZ (zh b != iZ) (j2 ∧ q4 ∧ kI ∧ zh b = vG a b) (lN q5 ≤ nM ∧ lN q6 ≤ nM ∧ zZ q7 (zZ q7 (j2 ∧ q4 ∧ kI ∧ YF
 (fun (x1 x2 : Int) => x1 * x2) q5 q6 = vG a b) (0 ≤ nM ∧ 0 ≤ nM ∧ j2 ∧ (True ∧ kI ∧ yD q8 q8 = RA a b) ∧ kI ∧ zc q8 q8 = vG a b)) (lN q9 ≤ nM ∧ lN q10 ≤ nM ∧ zZ (YF (fun (x1 x2 : Int) => x1 * x2) q9 q10 != iZ) (j2 ∧ q4 ∧ kI ∧ YF (fun (x1 x2 : Int) => x1 * x2) q9 q10 = vG a b) (lN q11 ≤ nM ∧ lN q12 ≤ nM ∧ j2 ∧ (True ∧ kI ∧ yD q11
 q12 = RA a b) ∧ kI ∧ zc q11 q12 = vG a b))))); Zw [AV.str a, AV.str b] → lN a ≤ nX ∧ zZ (z8 a) (lN b ≤ nX ∧ zZ (z8 b) (bF (dK q1) (bF (dK q2) (j2 ∧ (True ∧ kI ∧ xR q1 q2 = RA a b) ∧ kI ∧ iZ = vG a b))) q3) q3 := by
 delta bF dK bA nX nM cI kI j2 lN iZ
 dsimp only
 intro hb
 simp only [sS, dS, xw]
 have ncd := vY a
 have ncb := vY b
 have dl : ∀ a : zj, zh a = 0 → (yy a).length ≤ 301 := fun a h => by have := (Zr.1 h).2.2.1; unfold yy; cases zJ a <;> simp <;> omega
 have eA : zh a ≠ 0 → 0 = RA a b ∧ zh a = vG a b := fun h => by
  have e : vG a b = zh a := by unfold vG; rw [bne_iff_ne.2 h]; rfl
  unfold RA
  rw [e, beq_eq_false_iff_ne.2 h]
  exact ⟨rfl, rfl⟩
 have eB : zh a = 0 → zh b ≠ 0 → 0 = RA a b ∧ zh b = vG a b := fun h0 h => by
  have e : vG a b = zh b := by unfold vG; rw [h0, bne_iff_ne.2 h]; rfl
  unfold RA
  rw [e, beq_eq_false_iff_ne.2 h]
  exact ⟨rfl, rfl⟩
 have eC : zh a = 0 → zh b = 0 → ZM (zL a * (zP b : Int)) ≠ 0 → 0 = RA a b ∧ ZM (zL a * (zP b : Int)) = vG a b := fun h0 h1 h => by
  have e : vG a b = ZM (zL a * (zP b : Int)) := by unfold vG; rw [h0, h1, bne_iff_ne.2 h]; rfl
  unfold RA
  rw [e, beq_eq_false_iff_ne.2 h]
  exact ⟨rfl, rfl⟩
 have eD : zh a = 0 → zh b = 0 → ZM (zL a * (zP b : Int)) = 0 → vG a b = ZM (zL b * (zP a : Int)) := fun h0 h1 h => by
  unfold vG; rw [h0, h1, h]; rfl
 have big : zh a = 0 → zh b = 0 → _ := fun h0 h1 => And.intro (gm h0 h1) (gm h1 h0)
 refine ⟨hla, zX.2 ⟨fun c => ⟨hlb, zX.2 ⟨fun c2 => ?_, fun c2 => ?_⟩⟩, fun c => ?_⟩⟩
 ·obtain ⟨a1, a2, a3⟩ := yi c
  obtain ⟨b1, b2, b3⟩ := yi c2
  rw [c, c2]
  simp only [cond_true]
  have m1 : (zL a * (zP b : Int)).natAbs ≤ 99999999 * 99999999 := by rw [Int.natAbs_mul, Int.natAbs_natCast]; exact Nat.mul_le_mul a2 b3
  have m2 : (zL b * (zP a : Int)).natAbs ≤ 99999999 * 99999999 := by rw [Int.natAbs_mul, Int.natAbs_natCast]; exact Nat.mul_le_mul b2 a3
  obtain ⟨r1, r2⟩ := ZP (n := zL a * (zP b : Int)) (k := 20) (by omega) (by omega) (by omega)
  obtain ⟨r3, r4⟩ := ZP (n := zL b * (zP a : Int)) (k := 20) (by omega) (by omega) (by omega)
  have e := eD a1 b1 r2
  rw [r4] at e
  unfold RA
  rw [e]
  exact ⟨⟨by omega, by omega⟩, ⟨by omega, by omega⟩, rfl, rfl, rfl⟩
 all_goals
  refine ⟨hla, fun h => ⟨rfl, eA h⟩, fun h0 => ⟨hlb, fun h => ⟨rfl, eB h0 h⟩, fun h1 => ?_⟩⟩
  obtain ⟨⟨p1, p2⟩, p3, p4⟩ := big h0 h1
  have dla := dl a h0
  have dlb := dl b h1
  have nla := (Zr.1 h0).2.1
  have nlb := (Zr.1 h1).2.1
  have ll1 := (wv (zn a)).2
  have ll2 := (wv (zn b)).2
  rw [h0, h1]
  simp only [beq_self_eq_true, cond_true, p1, p2, p3, p4]
  refine ⟨by omega, by omega, fun h => ⟨fun _ => ⟨rfl, eC h0 h1 h⟩, fun h2 => absurd h2 h⟩, fun h => ⟨by omega, by omega, fun h2 => ?_, fun h2 => ?_⟩⟩
  ·have e := eD h0 h1 h
   unfold RA
   rw [e, beq_eq_false_iff_ne.2 h2]
   exact ⟨rfl, rfl, rfl⟩
  ·have e := eD h0 h1 h
   rw [h2] at e
   obtain ⟨q1, q2, q3, q4⟩ := kB h h2
   unfold RA
   rw [e, q1, q2]
   exact ⟨q3, q4, rfl, rfl, rfl⟩
theorem JS {G : List (Nat × Obj)} (hG : zo G) (a : List UInt8) (b : List UInt8) (hla : a.length ≤ 9223372036854775807) (hlb : b.length ≤ 9223372036854775807) : zt Tryz.prog G 29 [.str a, .str b] (.tup 2 (zw [.i (RA a b), .i (vG a b)])) :=
 zW (T := H7 G) (an := .auto) mixed (oG hG) (Eq.mp (by kernel_rfl) (LD G a b hla hlb))
end Go.Te

namespace Go.Te
open Go Go.Sx Go.Proofs Go.Ar
set_option maxRecDepth 100000
set_option maxHeartbeats 4000000
structure Nt where
 n : Int
 d : Int
instance : zV Nt := ⟨2, ⟨0, 0⟩, fun c => zw [.i c.n, .i c.d], fun cs => ⟨AV.int (cs 0), AV.int (cs 1)⟩, fun cs => YD (cs 0) && YD (cs 1), fun cs h j hj => by
 simp only [Bool.and_eq_true] at h
 match j, hj with
 | 0, _ => exact ZT (Ul h.1)
 | 1, _ => exact ZT (Ul h.2)⟩
instance : y7 Nt := ⟨fun _ => rfl, fun _ => rfl⟩
def xX (n d : Int) : zj := bif zg d 0 then ZX (-n) (-d).toNat else ZX n d.toNat
theorem Nh (n : Int) {d : Int} (hd : 0 < d) : w6 (if -n > n then -n else n) d = (Nat.gcd n.natAbs d.toNat : Int) := by
 have e : (if -n > n then -n else n) = (n.natAbs : Int) := by split <;> omega
 unfold w6
 rw [e, (Zz _ _).2 (show (0 : Int) ≤ (n.natAbs : Int) by omega), (Zz _ _).2 (show 0 ≤ d by omega), Int.toNat_natCast]
 rfl
theorem pK (n : Int) {d : Int} (hd : 0 < d) : (0 : Int) < (Nat.gcd n.natAbs d.toNat : Int) ∧ n.tdiv (Nat.gcd n.natAbs d.toNat : Int) = n / (Nat.gcd n.natAbs d.toNat : Int) ∧ d.tdiv (Nat.gcd n.natAbs d.toNat : Int) = ((d.toNat / Nat.gcd n.natAbs d.toNat : Nat) : Int) ∧ (n / (Nat.gcd n.natAbs d.toNat : Int)).natAbs ≤ n.natAbs ∧ 0 < d.toNat / Nat.gcd n.natAbs d.toNat ∧ d.toNat / Nat.gcd n.natAbs d.toNat ≤ d.toNat := by
 have hg : 0 < Nat.gcd n.natAbs d.toNat := Nat.gcd_pos_of_pos_right _ (by omega)
 have hdv := Nat.gcd_dvd_right n.natAbs d.toNat
 have hnv : ((Nat.gcd n.natAbs d.toNat : Nat) : Int) ∣ n := Int.ofNat_dvd_left.2 (Nat.gcd_dvd_left _ _)
 generalize Nat.gcd n.natAbs d.toNat = g at *
 have e1 : n.tdiv (g : Int) = n / (g : Int) := Int.tdiv_eq_ediv_of_dvd hnv
 refine ⟨by omega, e1, ?_, ?_, Nat.div_pos (Nat.le_of_dvd (by omega) hdv) hg, Nat.div_le_self _ _⟩
 ·rw [Int.tdiv_eq_ediv_of_nonneg (by omega), Int.natCast_ediv]
  congr 1
  omega
 ·rw [← e1]; exact Int.natAbs_tdiv_le_natAbs n g
theorem rm (n : Int) (d : Nat) : (d / Nat.gcd n.natAbs d = 1 → Lib.itoa (n / (Nat.gcd n.natAbs d : Int)) = ZX n d) ∧ (d / Nat.gcd n.natAbs d ≠ 1 → Lib.itoa (n / (Nat.gcd n.natAbs d : Int)) ++ [47] ++ Lib.itoa ((d / Nat.gcd n.natAbs d : Nat) : Int) = ZX n d) := by
 unfold ZX Yn
 refine ⟨fun h => ?_, fun h => ?_⟩
 ·rw [h]
  exact (List.append_nil _).symm
 ·rw [show Nat.beq (d / Nat.gcd n.natAbs d) 1 = false from Bool.eq_false_iff.2 fun e => h (Nat.eq_of_beq_eq_true e), Go.Ar.Z6]
  simp
theorem PY {n : Int} (h : n.natAbs < 10 ^ 20) : (Lib.itoa n).length ≤ 21 := by
 rw [Xz]
 have : x5 n ≤ 20 := xM (by omega) h
 split <;> omega
def sF : List AV → Option (List zN × AV)
 | [.agg 2 p_x] => some ([.b (YD (p_x 0) && YD (p_x 1)), .p ((⟨AV.int (p_x 0), AV.int (p_x 1)⟩ : Nt).d ≠ 0), .p (-1000000000000000000 ≤ (⟨AV.int (p_x 0), AV.int (p_x 1)⟩ : Nt).d ∧ (⟨AV.int (p_x 0), AV.int (p_x 1)⟩ : Nt).d ≤ 1000000000000000000), .p (-1000000000000000000 ≤ (⟨AV.int (p_x 0), AV.int (p_x 1)⟩ : Nt).n ∧ (⟨AV.int (p_x 0), AV.int (p_x 1)⟩ : Nt).n ≤ 1000000000000000000)], .str (xX (⟨AV.int (p_x 0), AV.int (p_x 1)⟩ : Nt).n (⟨AV.int (p_x 0), AV.int (p_x 1)⟩ : Nt).d))
 | _ => none
theorem Li (G : List (Nat × Obj)) (x : Nt) (h0 : x.d ≠ 0) (h1 : -1000000000000000000 ≤ x.d ∧ x.d ≤ 1000000000000000000) (h2 : -1000000000000000000 ≤ x.n ∧ x.n ≤ 1000000000000000000) :
 let q1 := (if - -Nt.n x > -Nt.n x then - -Nt.n x else -Nt.n x); let q2 := (DB.db (w6 q1 (-Nt.d x) ≠ iZ)); let q4 := (w6 q1 (-Nt.d x)); let q3 := (Int.tdiv (-Nt.n x) q4); let q5 := (Int.tdiv (-Nt.d x) q4); let q6 := (iN ≤ Int.tdiv (-Nt.n x) q4 ∧ Int.tdiv (-Nt.n x) q4 ≤ iX); let q7 := (ByteArray.data (ByteArray.mk #[(47 : UInt8)])); let q8 := (if -Nt.n x > Nt.n x then -Nt.n x else Nt.n x); let q9 := (DB.db (w6 q8 (Nt.d x) ≠ iZ)); let q11 := (w6 q8 (Nt.d x)); let q10 := (Int.tdiv (Nt.n x) q11); let q12 := (Int.tdiv (Nt.d x)
 q11); let q13 := (iN ≤ Int.tdiv (Nt.n x) q11 ∧ Int.tdiv (Nt.n x) q11 ≤ iX); Zw [AV.agg 2 (zV.enc x)] → zZ (zg (Nt.d x) iZ) (bF (dK (-Nt.n x)) (bF (dK (-Nt.d x)) (bF (dK (- -Nt.n x)) (((iZ ≤ if - -Nt.n x > -Nt.n x then - -Nt.n x else -Nt.n x) ∧ q1 ≤ iX) ∧ (iZ ≤ -Nt.d x ∧ -Nt.d x ≤ iX) ∧ bF q2 (bF (dK q3) (bF q2 (bF (dK q5) (zZ (Int.tdiv (-Nt.d x) q4 == iO) (q6
 ∧ Lib.itoa q3 = xX (Nt.n x) (Nt.d x)) (q6 ∧ bF (DB.db (lN (Lib.itoa q3) + 1 ≤ nX)) ((iN ≤ Int.tdiv (-Nt.d x) q4 ∧ Int.tdiv (-Nt.d x) q4 ≤ iX) ∧ bF (DB.db (lN (Lib.itoa q3 ++ Array.toList q7) + lN (Lib.itoa q5) ≤ nX)) (Lib.itoa q3 ++ Array.toList q7 ++ Lib.itoa q5 = xX (Nt.n x) (Nt.d x)))))))))))) (bF (dK (-Nt.n x)) (((iZ ≤ if -Nt.n x > Nt.n x then -Nt.n x else Nt.n x) ∧ q8 ≤ (9223372036854775807 :
 Int)) ∧ (iZ ≤ Nt.d x ∧ Nt.d x ≤ iX) ∧ bF q9 (bF (dK q10) (bF q9 (bF (dK q12) (zZ (Int.tdiv (Nt.d x) q11 == iO) (q13 ∧ Lib.itoa q10 = xX (Nt.n x) (Nt.d x)) (q13 ∧ bF (DB.db (lN (Lib.itoa q10) + 1 ≤ nX)) ((iN ≤ Int.tdiv (Nt.d x) q11 ∧ Int.tdiv (Nt.d x) q11 ≤ iX) ∧ bF (DB.db (lN (Lib.itoa q10 ++ Array.toList q7) + lN (Lib.itoa q12) ≤ nX)) (Lib.itoa q10 ++ Array.toList q7 ++ Lib.itoa q12 = xX
 (Nt.n x) (Nt.d x)))))))))) := by
 delta bF dK nX lN iZ iO iX iN
 dsimp only
 intro hb
 simp only [sS, dS]
 have key : ∀ n d : Int, 0 < d → d ≤ 1000000000000000000 → -1000000000000000000 ≤ n ∧ n ≤ 1000000000000000000 → _ := fun n d hd hd1 hn => And.intro (Nh n hd) (And.intro (pK n hd) (rm n d.toNat))
 refine ⟨fun hd => ?_, fun hd => ?_⟩
 ·obtain ⟨k1, ⟨k2, k3, k4, k5, k6, k7⟩, k8, k9⟩ := key (-x.n) (-x.d) (by omega) (by omega) ⟨by omega, by omega⟩
  have hs : xX x.n x.d = ZX (-x.n) (-x.d).toNat := by unfold xX; rw [(zq _ _).2 hd]; rfl
  rw [k1, k3, k4, hs]
  generalize ZX (-x.n) (-x.d).toNat = R at *
  generalize Nat.gcd (-x.n).natAbs (-x.d).toNat = g at *
  generalize (-x.n) / (g : Int) = q at *
  generalize (-x.d).toNat / g = e at *
  have l1 := PY (n := q) (by omega)
  have l2 := PY (n := (e : Int)) (by omega)
  refine ⟨⟨by omega, by omega⟩, ⟨by omega, by omega⟩, ⟨by omega, by omega⟩, ⟨by split <;> omega, by split <;> omega⟩, ⟨by omega, by omega⟩, by omega, ⟨by omega, by omega⟩, by omega, ⟨by omega, by omega⟩, fun h => ⟨⟨by omega, by omega⟩, k8 (by omega)⟩, fun h => ⟨⟨by omega, by omega⟩, by omega, ⟨by omega, by omega⟩, by rw [List.length_append, List.length_singleton]; omega, k9 (by omega)⟩⟩
 ·obtain ⟨k1, ⟨k2, k3, k4, k5, k6, k7⟩, k8, k9⟩ := key x.n x.d (by omega) (by omega) h2
  have hs : xX x.n x.d = ZX x.n x.d.toNat := by unfold xX; rw [show zg x.d 0 = false from Bool.eq_false_iff.2 fun e => by have := (zq _ _).1 e; omega]; rfl
  rw [k1, k3, k4, hs]
  generalize ZX x.n x.d.toNat = R at *
  generalize Nat.gcd x.n.natAbs x.d.toNat = g at *
  generalize x.n / (g : Int) = q at *
  generalize hD : x.d.toNat / g = e at *
  have l1 := PY (n := q) (by omega)
  have l2 := PY (n := (e : Int)) (by omega)
  refine ⟨⟨by omega, by omega⟩, ⟨by split <;> omega, by split <;> omega⟩, ⟨by omega, by omega⟩, by omega, ⟨by omega, by omega⟩, by omega, ⟨by omega, by omega⟩, fun h => ⟨⟨by omega, by omega⟩, k8 (by omega)⟩, fun h => ⟨⟨by omega, by omega⟩, by omega, ⟨by omega, by omega⟩, by rw [List.length_append, List.length_singleton]; omega, k9 (by omega)⟩⟩
theorem iW {G : List (Nat × Obj)} (hG : zo G) (x : Nt) (h0 : x.d ≠ 0) (h1 : -1000000000000000000 ≤ x.d ∧ x.d ≤ 1000000000000000000) (h2 : -1000000000000000000 ≤ x.n ∧ x.n ≤ 1000000000000000000) : zt Tryz.prog G 101 [YG x] (.str (xX x.n x.d)) :=
 zW (T := (ni G).plus 92 s9) (an := .auto) mixed (zz.plus (Yy hG) (zp.mono nI)) (Eq.mp (by kernel_rfl) (Li G x h0 h1 h2))
theorem nz {G : List (Nat × Obj)} (hG : zo G) : zp Tryz.prog G 101 sF := by
 intro xs ps r h hp
 unfold sF at h
 split at h
 ·skip
  rename_i p_x
  cases h
  obtain ⟨q0, q1, q2, q3, -⟩ := ZI hp
  exact weaken (ys := [YG (⟨AV.int (p_x 0), AV.int (p_x 1)⟩ : Nt)]) ⟨ZU (x := .agg 2 p_x) (α := Nt) q0, trivial⟩ (iW hG (⟨AV.int (p_x 0), AV.int (p_x 1)⟩ : Nt) q1 q2 q3)
 ·cases h
def yj (s : zj) : zj := bif s == [48] then s else bif zk s then zR s else 45 :: s
def qh : List AV → Option (List zN × AV)
 | [.str s] => some ([.p (s.length ≤ 4294967280)], .str (yj s))
 | _ => none
theorem KQ (s : List UInt8) (hl : s.length ≤ 4294967280) :
 Zw [AV.str s] → zZ (s == bA #[(48 : UInt8)]) (s = yj s) (zZ (zk s) (zR s = yj s) (bF (DB.db (1 + lN s ≤ nX)) (bA #[(45 : UInt8)] ++ s = yj s))) := by
 delta bF bA nX lN
 intro hb
 simp only [sS, dS]
 unfold yj
 refine zX.2 ⟨fun c => by rw [c]; rfl, fun c => zX.2 ⟨fun c2 => by rw [c, c2]; rfl, fun c2 => ⟨by omega, by rw [c, c2]; rfl⟩⟩⟩
theorem Ka (s : List UInt8) (hl : s.length ≤ 4294967280) : zt Tryz.prog [] 114 [.str s] (.str (yj s)) :=
 zW (T := T0.plus 140 (YL fun s => .tup 2 (zw [.str (zR s), .b (zk s)]))) (an := .auto) mixed (zz.plus zQ Qv) (Eq.mp (by kernel_rfl) (KQ s hl))
theorem iU : zp Tryz.prog [] 114 qh := by
 intro xs ps r h hp
 unfold qh at h
 split at h
 ·skip
  rename_i s
  cases h
  obtain ⟨q0, -⟩ := ZI hp
  exact weaken (ys := [.str s]) ⟨zS _, trivial⟩ (Ka s q0)
 ·cases h
theorem Rh {s : zj} (h : ZR s = 0) : ZR (yj s) = 0 ∧ zY (yj s) = -zY s ∧ (yj s).length ≤ 302 := by
 obtain ⟨h1, h2⟩ := yW.1 h
 have e : yj s = Lib.itoa (-zY s) := by
  unfold yj
  by_cases h0 : s = [48]
  ·subst h0
   show [48] = Lib.itoa ((0 : Nat) : Int)
   rw [Go.Ar.Z6, zA (by omega)]; rfl
  rw [beq_eq_false_iff_ne.2 h0, cond_false]
  rcases yK h1 with ⟨r, rfl, g1, g2, g3⟩ | ⟨g1, g3⟩
  ·rw [g3, Int.neg_neg, Go.Ar.Z6, ZF g1]
   rfl
  ·have hm : zk s = false := by
    cases hm : zk s with
    | false => rfl
    | true =>
     match s, hm, g1 with
     | c :: r, hm, g1 =>
      have hc : c = 45 := eq_of_beq hm
      subst hc
      exact (wT g1).elim
   have hz : zD s ≠ 0 := fun hz => h0 (Vq g1 hz)
   rw [hm, cond_false, g3, Go.Ar.itoa_neg hz, ZF g1]
 have hl := (wv (yj s)).2
 have hE : ZR (yj s) = 0 := by
  rw [e, Yt]
  unfold ZM x5
  rw [Int.natAbs_neg]
  rw [X6 h1] at h2
  unfold x5 at h2
  rw [show Nat.blt 300 (Lib.nDigits (zY s).natAbs) = false from Bool.eq_false_iff.2 fun e => by have := (ZY _ _).1 e; omega]
  rfl
 exact ⟨hE, by rw [e, (zC _).2], by have := (yW.1 hE).2; omega⟩
theorem OK {N : Int} {D : Nat} {n d : zj} (hn : n = Lib.itoa (N / (Nat.gcd N.natAbs D : Int))) (hd : d = Lib.itoa ((D / Nat.gcd N.natAbs D : Nat) : Int)) (ln : n.length ≤ 400) (ld : d.length ≤ 400) :
  zZ (d == [49]) (2 = [AV.junk, AV.junk].length ∧ n = ZX N D) (n.length + 1 ≤ 9223372036854775807 ∧ (n ++ [47]).length + d.length ≤ 9223372036854775807 ∧ 2 = [AV.junk, AV.junk].length ∧ n ++ [47] ++ d = ZX N D) := by
 obtain ⟨s1, s2⟩ := rm N D
 have e := SH (D / Nat.gcd N.natAbs D)
 rw [← hd] at e
 refine zX.2 ⟨fun c => ⟨rfl, ?_⟩, fun c => ⟨by omega, by rw [List.length_append, List.length_singleton]; omega, rfl, ?_⟩⟩
 ·rw [c] at e
  rw [hn]; exact s1 (Nat.eq_of_beq_eq_true e.symm)
 ·rw [c] at e
  rw [hn, hd]; exact s2 fun h => by rw [h] at e; cases e
theorem KA {n d : zj} (hn : ZR n = 0) (hd : ZR d = 0) (hp : 0 < zY d) : zc n d = 0 ∧ (Lib.itoa (yM n d : Int)).length ≤ 400 ∧ n.length ≤ 400 ∧ d.length ≤ 400 ∧
  zZ (!Lib.itoa (yM n d : Int) == [49])
   (zZ (YX d (Lib.itoa (yM n d : Int)) == [49]) (2 = [AV.junk, AV.junk].length ∧ YX n (Lib.itoa (yM n d : Int)) = ZX (zY n) (zY d).toNat)
    (List.length (YX n (Lib.itoa (yM n d : Int))) + 1 ≤ 9223372036854775807 ∧ List.length (YX n (Lib.itoa (yM n d : Int)) ++ [47]) + List.length (YX d (Lib.itoa (yM n d : Int))) ≤ 9223372036854775807 ∧
     2 = [AV.junk, AV.junk].length ∧ YX n (Lib.itoa (yM n d : Int)) ++ [47] ++ YX d (Lib.itoa (yM n d : Int)) = ZX (zY n) (zY d).toNat))
   (zZ (d == [49]) (2 = [AV.junk, AV.junk].length ∧ n = ZX (zY n) (zY d).toNat) (n.length + 1 ≤ 9223372036854775807 ∧ (n ++ [47]).length + d.length ≤ 9223372036854775807 ∧ 2 = [AV.junk, AV.junk].length ∧ n ++ [47] ++ d = ZX (zY n) (zY d).toNat)) := by
 have hb : zc n d = 0 := by unfold zc; rw [hn, hd]; rfl
 obtain ⟨n1, n2, n3⟩ := yw hn
 obtain ⟨d1, d2, d3⟩ := yw hd
 have n4 := TB hn
 have d4 := TB hd
 have eD : (zY d).natAbs = (zY d).toNat := by omega
 have hg : yM n d = Nat.gcd (zY n).natAbs (zY d).toNat := by unfold yM; rw [eD]
 obtain ⟨g1, g2, g3, g4, g5, g6⟩ := pK (zY n) hp
 rw [← hg] at g1 g2 g3 g4 g5 g6
 have gl : yM n d ≤ (zY d).natAbs := by rw [hg, eD]; exact Nat.le_of_dvd (by omega) (Nat.gcd_dvd_right _ _)
 have gi : ZR (Lib.itoa (yM n d : Int)) = 0 := by
  rw [Yt]
  exact (ZP (n := (yM n d : Int)) (k := 300) (by omega) (by omega) (by rw [Int.natAbs_natCast]; omega)).2
 have lg := (yw gi).2.1
 have hz : (Lib.itoa (yM n d : Int) == [48]) = false := beq_eq_false_iff_ne.2 fun e => by
  have := (zC (yM n d : Int)).2
  rw [e] at this
  have h0 : zY [48] = 0 := by decide
  rw [h0] at this
  omega
 have dv : ∀ x : zj, ZR x = 0 → YX x (Lib.itoa (yM n d : Int)) = Lib.itoa (zY x / (yM n d : Int)) := fun x hx => by
  have e : Xv x (Lib.itoa (yM n d : Int)) = 0 := by
   unfold Xv zc
   rw [hx, gi, hz]; rfl
  rw [(qT e).1, (zC _).2, Int.fdiv_eq_ediv_of_nonneg _ (by omega)]
 have vd : zY d / (yM n d : Int) = (((zY d).toNat / yM n d : Nat) : Int) := by
  rw [Int.natCast_ediv]; congr 1; omega
 have qd := dv d hd
 rw [vd] at qd
 have ql : ∀ x : Int, x.natAbs < 10 ^ 300 → (Lib.itoa x).length ≤ 400 := fun x hx => by
  have := Yt x
  rw [(ZP (n := x) (k := 300) (by omega) (by omega) hx).2] at this
  have := (yw this).2.1
  omega
 refine ⟨hb, by omega, by omega, by omega, zX.2 ⟨fun c => ?_, fun c => ?_⟩⟩
 ·refine OK (by rw [dv n hn, hg]) (by rw [qd, hg]) ?_ ?_
  ·rw [dv n hn]; exact ql _ (by omega)
  ·rw [qd]; exact ql _ (by rw [Int.natAbs_natCast]; omega)
 ·rw [Bool.not_eq_false', SH] at c
  have c1 := Nat.eq_of_beq_eq_true c
  rw [hg] at c1
  refine OK ?_ ?_ (by omega) (by omega)
  ·rw [c1]
   show n = Lib.itoa (zY n / 1)
   rw [Int.ediv_one, Yh n3]
  ·rw [c1, Nat.div_one, show (((zY d).toNat : Nat) : Int) = zY d by omega, Yh d3]
def VO : List AV → Option (List zN × AV)
 | [.str n, .str d] => some ([.p (ZR n = 0), .p (ZR d = 0), .p (zY d ≠ 0)], .tup 2 (zw [.str (xX (zY n) (zY d)), .i 0]))
 | _ => none
theorem Lx (G : List (Nat × Obj)) (n : List UInt8) (d : List UInt8) (hn : ZR n = 0) (hd : ZR d = 0) (hp : zY d ≠ 0) :
 let q1 := (True ∧ bA #[] = xX (zY n) (zY d)); let q2 := (bif zc (yj n) (yj d) != iZ then [] else Lib.itoa (cI (yM (yj n) (yj d)))); let q3 := (ByteArray.data (ByteArray.mk #[(49 : UInt8)])); let q4 := (ByteArray.data (ByteArray.mk #[(47 : UInt8)])); let q5 := (bif zc n d != iZ then [] else Lib.itoa (cI (yM n d))); Zw [AV.str n, AV.str d] → zZ (zk d) (lN n ≤ nM ∧ lN d ≤ nM ∧ lN (yj n) ≤ nM ∧ lN (yj d) ≤ nM ∧ zZ (zc (yj n)
 (yj d) != iZ) (j2 ∧ q1 ∧ kI ∧ zc (yj n) (yj d) = iZ) (zZ (!q2 == Array.toList q3) (lN (yj n) ≤ nM ∧ lN q2 ≤ nM ∧ lN (yj d) ≤ nM ∧ lN q2 ≤ nM ∧ zZ (YX (yj d) q2 == Array.toList q3) (j2 ∧ (True ∧ YX (yj n) q2 = xX (zY n) (zY d)) ∧ kI ∧ iZ = iZ) (bF (DB.db (lN (YX (yj n) q2) + 1 ≤ nX)) (bF (DB.db (lN (YX (yj n) q2 ++
 Array.toList q4) + lN (YX (yj d) q2) ≤ nX)) (j2 ∧ (True ∧ YX (yj n) q2 ++ Array.toList q4 ++ YX (yj d) q2 = xX (zY n) (zY d)) ∧ kI ∧ iZ = iZ)))) (zZ (yj d == Array.toList q3) (j2 ∧ (True ∧ yj n = xX (zY n) (zY d)) ∧ kI ∧ iZ = iZ) (bF (DB.db (lN (yj n) + 1 ≤ nX)) (bF (DB.db (lN (yj n ++ Array.toList q4) + lN (yj d) ≤ nX)) (2 =
 lN [AV.junk, AV.junk] ∧ (True ∧ yj n ++ Array.toList q4 ++ yj d = xX (zY n) (zY d)) ∧ kI ∧ iZ = iZ)))))) (lN n ≤ nM ∧ lN d ≤ nM ∧ zZ (zc n d != iZ) (j2 ∧ q1 ∧ kI ∧ zc n d = iZ) (zZ (!q5 == Array.toList q3) (lN n ≤ nM ∧ lN q5 ≤ nM ∧ lN d ≤ nM ∧ lN q5 ≤ nM ∧ zZ (YX d q5 == Array.toList q3) (j2 ∧ (True ∧ YX n q5 = xX (zY
 n) (zY d)) ∧ kI ∧ iZ = iZ) (bF (DB.db (lN (YX n q5) + 1 ≤ nX)) (bF (DB.db (lN (YX n q5 ++ Array.toList q4) + lN (YX d q5) ≤ nX)) (j2 ∧ (True ∧ YX n q5 ++ Array.toList q4 ++ YX d q5 = xX (zY n) (zY d)) ∧ kI ∧ iZ = iZ)))) (zZ (d == Array.toList q3) (j2 ∧ (True ∧ n = xX (zY n) (zY d)) ∧ kI ∧ iZ = iZ) (bF (DB.db (lN n + 1 ≤
 nX)) (bF (DB.db (lN (n ++ Array.toList q4) + lN d ≤ nX)) (j2 ∧ (True ∧ n ++ Array.toList q4 ++ d = xX (zY n) (zY d)) ∧ kI ∧ iZ = iZ)))))) := by
 delta bF bA nX nM cI kI j2 lN iZ
 dsimp only
 intro hb
 simp only [sS, dS]
 have key : ∀ n d : zj, ZR n = 0 → ZR d = 0 → 0 < zY d → _ := fun n d h1 h2 h3 => KA h1 h2 h3
 refine zX.2 ⟨fun c => ?_, fun c => ?_⟩
 ·obtain ⟨o1, o2, o3⟩ := Rh hn
  obtain ⟨p1, p2, p3⟩ := Rh hd
  have hneg : zY d < 0 := by
   match d, c with
   | x :: r, c =>
    have hx : x = 45 := eq_of_beq c
    subst hx
    have : zY (45 :: r) = -(zD r : Int) := rfl
    omega
  have hs : xX (zY n) (zY d) = ZX (zY (yj n)) (zY (yj d)).toNat := by unfold xX; rw [(zq _ _).2 hneg, o2, p2]; rfl
  obtain ⟨k1, k2, k3, k4, k5⟩ := key (yj n) (yj d) o1 p1 (by omega)
  obtain ⟨_, n2, _⟩ := yw hn
  obtain ⟨_, d2, _⟩ := yw hd
  rw [k1, hs]
  refine ⟨by omega, by omega, by omega, by omega, fun h => absurd rfl h, fun _ => ?_⟩
  refine zX.2 ⟨fun c => ⟨by omega, Nat.le_trans k2 (by decide), by omega, Nat.le_trans k2 (by decide), ?_⟩, fun c => ?_⟩
  ·exact (zX.1 k5).1 c
  ·exact (zX.1 k5).2 c
 ·have hpos : 0 < zY d := by
   obtain ⟨d1, _⟩ := yW.1 hd
   rcases yK d1 with ⟨r, rfl, _⟩ | ⟨g1, g3⟩
   ·cases c
   ·omega
  have hs : xX (zY n) (zY d) = ZX (zY n) (zY d).toNat := by unfold xX; rw [show zg (zY d) 0 = false from Bool.eq_false_iff.2 fun e => by have := (zq _ _).1 e; omega]; rfl
  obtain ⟨k1, k2, k3, k4, k5⟩ := key n d hn hd hpos
  rw [k1, hs]
  refine ⟨by omega, by omega, fun h => absurd rfl h, fun _ => ?_⟩
  refine zX.2 ⟨fun c => ⟨by omega, Nat.le_trans k2 (by decide), by omega, Nat.le_trans k2 (by decide), ?_⟩, fun c => ?_⟩
  ·exact (zX.1 k5).1 c
  ·exact (zX.1 k5).2 c
theorem Jz {G : List (Nat × Obj)} (hG : zo G) (n : List UInt8) (d : List UInt8) (hn : ZR n = 0) (hd : ZR d = 0) (hp : zY d ≠ 0) : zt Tryz.prog G 79 [.str n, .str d] (.tup 2 (zw [.str (xX (zY n) (zY d)), .i 0])) :=
 zW (T := ((((WS G).plus 44 (YL fun s => .b (zk s))).plus 96 S7).plus 115 SY).plus 114 qh) (an := .auto) mixed (zz.plus (zz.plus (zz.plus (zz.plus zQ (zp.mono SR)) (nN hG)) (MP hG)) (zp.mono iU)) (Eq.mp (by kernel_rfl) (Lx G n d hn hd hp))
theorem sQ {G : List (Nat × Obj)} (hG : zo G) : zp Tryz.prog G 79 VO := by
 intro xs ps r h hp
 unfold VO at h
 split at h
 ·skip
  rename_i n d
  cases h
  obtain ⟨q0, q1, q2, -⟩ := ZI hp
  exact weaken (ys := [.str n, .str d]) ⟨zS _, zS _, trivial⟩ (Jz hG n d q0 q1 q2)
 ·cases h
end Go.Te

namespace Go.Te
open Go Go.Sx Go.Proofs Go.Ar
set_option maxRecDepth 100000
set_option maxHeartbeats 4000000
structure Pt where
 n : zj
 d : zj
instance : zV Pt := ⟨2, ⟨[], []⟩, fun c => zw [.str c.n, .str c.d], fun cs => ⟨AV.bytes (cs 0), AV.bytes (cs 1)⟩, fun cs => Zk (cs 0) && Zk (cs 1), fun cs h j hj => by
 simp only [Bool.and_eq_true] at h
 match j, hj with
 | 0, _ => exact ZT (x7 h.1)
 | 1, _ => exact ZT (x7 h.2)⟩
instance : y7 Pt := ⟨fun _ => rfl, fun _ => rfl⟩
def K4 (k : Nat) : AV → Bool
 | .fn (.func k') 0 _ 0 _ => Nat.beq k' k
 | _ => false
theorem NL {k : Nat} {x : AV} (h : K4 k x = true) : zd x (JK k) := by
 unfold K4 at h
 split at h
 ·obtain rfl := Nat.eq_of_beq_eq_true h
  exact ⟨rfl, rfl, rfl, xD, xD⟩
 ·cases h
def tr (x : Nt) : Prop := (-99999999 ≤ x.n ∧ x.n ≤ 99999999) ∧ (0 < x.d ∧ x.d ≤ 99999999)
theorem Yu {a b : Int} (ha : -99999999 ≤ a ∧ a ≤ 99999999) (hb : -99999999 ≤ b ∧ b ≤ 99999999) : -10000000000000000 ≤ a * b ∧ a * b ≤ 10000000000000000 := by
 have h : (a * b).natAbs ≤ 99999999 * 99999999 := by rw [Int.natAbs_mul]; exact Nat.mul_le_mul (by omega) (by omega)
 omega
def nO : List AV → Option (List zN × AV)
 | [.agg 2 p_x, .agg 2 p_y] => some ([.b (YD (p_x 0) && YD (p_x 1)), .b (YD (p_y 0) && YD (p_y 1)), .p (tr (⟨AV.int (p_x 0), AV.int (p_x 1)⟩ : Nt)), .p (tr (⟨AV.int (p_y 0), AV.int (p_y 1)⟩ : Nt))], YG (⟨(⟨AV.int (p_x 0), AV.int (p_x 1)⟩ : Nt).n * (⟨AV.int (p_y 0), AV.int (p_y 1)⟩ : Nt).d + (⟨AV.int (p_y 0), AV.int (p_y 1)⟩ : Nt).n * (⟨AV.int (p_x 0), AV.int (p_x 1)⟩ : Nt).d, (⟨AV.int (p_x 0), AV.int (p_x 1)⟩ : Nt).d * (⟨AV.int (p_y 0), AV.int (p_y 1)⟩ : Nt).d⟩ : Nt))
 | _ => none
theorem Je (x : Nt) (y : Nt) (h1 : tr x) (h2 : tr y) :
 Zw [AV.agg 2 (zV.enc x), AV.agg 2 (zV.enc y)] → bF (dK (Nt.n x * Nt.d y)) (bF (dK (Nt.n y * Nt.d x)) (bF (dK (Nt.n x * Nt.d y + Nt.n y * Nt.d x)) (bF (dK (Nt.d x * Nt.d y)) (2 = 2 ∧ (kI ∧ Nt.n x * Nt.d y + Nt.n y * Nt.d x = Nt.n (Nt.mk (Nt.n x * Nt.d y + Nt.n y * Nt.d x) (Nt.d x * Nt.d y))) ∧ kI ∧ Nt.d x * Nt.d y = Nt.d (Nt.mk (Nt.n x * Nt.d y + Nt.n y * Nt.d x) (Nt.d x * Nt.d y)))))) := by
 delta bF dK kI
 intro hb
 simp only [sS, dS]
 unfold tr at h1 h2
 have m1 := Yu (a := x.n) (b := y.d) h1.1 ⟨by omega, h2.2.2⟩
 have m2 := Yu (a := y.n) (b := x.d) h2.1 ⟨by omega, h1.2.2⟩
 have m3 := Yu (a := x.d) (b := y.d) ⟨by omega, h1.2.2⟩ ⟨by omega, h2.2.2⟩
 exact ⟨⟨by omega, by omega⟩, ⟨by omega, by omega⟩, ⟨by omega, by omega⟩, ⟨by omega, by omega⟩⟩
theorem IZ (x : Nt) (y : Nt) (h1 : tr x) (h2 : tr y) : zt Tryz.prog [] 61 [YG x, YG y] (YG (⟨x.n * y.d + y.n * x.d, x.d * y.d⟩ : Nt)) :=
 zW (T := T0) (an := .auto) mixed zQ (Eq.mp (by kernel_rfl) (Je x y h1 h2))
theorem ij : zp Tryz.prog [] 61 nO := by
 intro xs ps r h hp
 unfold nO at h
 split at h
 ·skip
  rename_i p_x p_y
  cases h
  obtain ⟨q0, q1, q2, q3, -⟩ := ZI hp
  exact weaken (ys := [YG (⟨AV.int (p_x 0), AV.int (p_x 1)⟩ : Nt), YG (⟨AV.int (p_y 0), AV.int (p_y 1)⟩ : Nt)]) ⟨ZU (x := .agg 2 p_x) (α := Nt) q0, ZU (x := .agg 2 p_y) (α := Nt) q1, trivial⟩ (IZ (⟨AV.int (p_x 0), AV.int (p_x 1)⟩ : Nt) (⟨AV.int (p_y 0), AV.int (p_y 1)⟩ : Nt) q2 q3)
 ·cases h
def O4 : List AV → Option (List zN × AV)
 | [.agg 2 p_x, .agg 2 p_y] => some ([.b (YD (p_x 0) && YD (p_x 1)), .b (YD (p_y 0) && YD (p_y 1)), .p (tr (⟨AV.int (p_x 0), AV.int (p_x 1)⟩ : Nt)), .p (tr (⟨AV.int (p_y 0), AV.int (p_y 1)⟩ : Nt))], YG (⟨(⟨AV.int (p_x 0), AV.int (p_x 1)⟩ : Nt).n * (⟨AV.int (p_y 0), AV.int (p_y 1)⟩ : Nt).n, (⟨AV.int (p_x 0), AV.int (p_x 1)⟩ : Nt).d * (⟨AV.int (p_y 0), AV.int (p_y 1)⟩ : Nt).d⟩ : Nt))
 | _ => none
theorem iQ (x : Nt) (y : Nt) (h1 : tr x) (h2 : tr y) :
 Zw [AV.agg 2 (zV.enc x), AV.agg 2 (zV.enc y)] → bF (dK (Nt.n x * Nt.n y)) (bF (dK (Nt.d x * Nt.d y)) (2 = 2 ∧ (kI ∧ Nt.n x * Nt.n y = Nt.n (Nt.mk (Nt.n x * Nt.n y) (Nt.d x * Nt.d y))) ∧ kI ∧ Nt.d x * Nt.d y = Nt.d (Nt.mk (Nt.n x * Nt.n y) (Nt.d x * Nt.d y)))) := by
 delta bF dK kI
 intro hb
 simp only [sS, dS]
 unfold tr at h1 h2
 have m1 := Yu (a := x.n) (b := y.n) h1.1 ⟨by omega, h2.1.2⟩
 have m2 := Yu (a := y.n) (b := x.d) h2.1 ⟨by omega, h1.2.2⟩
 have m3 := Yu (a := x.d) (b := y.d) ⟨by omega, h1.2.2⟩ ⟨by omega, h2.2.2⟩
 exact ⟨⟨by omega, by omega⟩, ⟨by omega, by omega⟩⟩
theorem Ip (x : Nt) (y : Nt) (h1 : tr x) (h2 : tr y) : zt Tryz.prog [] 76 [YG x, YG y] (YG (⟨x.n * y.n, x.d * y.d⟩ : Nt)) :=
 zW (T := T0) (an := .auto) mixed zQ (Eq.mp (by kernel_rfl) (iQ x y h1 h2))
theorem It : zp Tryz.prog [] 76 O4 := by
 intro xs ps r h hp
 unfold O4 at h
 split at h
 ·skip
  rename_i p_x p_y
  cases h
  obtain ⟨q0, q1, q2, q3, -⟩ := ZI hp
  exact weaken (ys := [YG (⟨AV.int (p_x 0), AV.int (p_x 1)⟩ : Nt), YG (⟨AV.int (p_y 0), AV.int (p_y 1)⟩ : Nt)]) ⟨ZU (x := .agg 2 p_x) (α := Nt) q0, ZU (x := .agg 2 p_y) (α := Nt) q1, trivial⟩ (Ip (⟨AV.int (p_x 0), AV.int (p_x 1)⟩ : Nt) (⟨AV.int (p_y 0), AV.int (p_y 1)⟩ : Nt) q2 q3)
 ·cases h
def Vv (f : Int → Int → Int) (x y : Pt) : Int :=
 bif ZM (zY x.n * zY y.d) != 0 then ZM (zY x.n * zY y.d) else bif ZM (zY y.n * zY x.d) != 0 then ZM (zY y.n * zY x.d)
 else bif ZM (f (zY x.n * zY y.d) (zY y.n * zY x.d)) != 0 then ZM (f (zY x.n * zY y.d) (zY y.n * zY x.d)) else ZM (zY x.d * zY y.d)
def R2 (f : Int → Int → Int) (x y : Pt) : zj := bif Vv f x y == 0 then xX (f (zY x.n * zY y.d) (zY y.n * zY x.d)) (zY x.d * zY y.d) else []
def tj (x : Pt) : Prop := ZR x.n = 0 ∧ ZR x.d = 0 ∧ zY x.d ≠ 0
theorem X9 {f : Int → Int → Int} {a b : zj} (ha : ZR a = 0) (hb : ZR b = 0) : YF f a b = ZM (f (zY a) (zY b)) ∧ y6 f a b = Ym (f (zY a) (zY b)) := by
 have hE : zc a b = 0 := by unfold zc; rw [ha, hb]; rfl
 obtain ⟨e1, e2⟩ := VI (f := f) hE
 exact ⟨e2, e1⟩
theorem wD {n : Int} (h : ZM n = 0) : ZR (Ym n) = 0 ∧ zY (Ym n) = n ∧ (Ym n).length ≤ 400 := by
 have e : Ym n = Lib.itoa n := by unfold Ym; rw [h]; rfl
 have hi : ZR (Lib.itoa n) = 0 := by rw [Yt, h]
 rw [e]
 exact ⟨hi, (zC n).2, by have := (yw hi).2.1; omega⟩
theorem iq {f : Int → Int → Int} {x y : Pt} (h1 : tj x) (h2 : tj y) :
 x.n.length ≤ 4294967280 ∧ y.d.length ≤ 4294967280 ∧
  (YF (fun x1 x2 => x1 * x2) x.n y.d ≠ 0 →
   (YF (fun x1 x2 => x1 * x2) x.n y.d ≠ 0 → 2 = [AV.junk, AV.junk].length ∧ [] = R2 f x y ∧ YF (fun x1 x2 => x1 * x2) x.n y.d = Vv f x y) ∧
   (YF (fun x1 x2 => x1 * x2) x.n y.d = 0 → 2 = [AV.junk, AV.junk].length ∧ [] = R2 f x y ∧ YF f [] [] = Vv f x y)) ∧
  (YF (fun x1 x2 => x1 * x2) x.n y.d = 0 → y.n.length ≤ 4294967280 ∧ x.d.length ≤ 4294967280 ∧
   (YF (fun x1 x2 => x1 * x2) y.n x.d ≠ 0 → 2 = [AV.junk, AV.junk].length ∧ [] = R2 f x y ∧ YF (fun x1 x2 => x1 * x2) y.n x.d = Vv f x y) ∧
   (YF (fun x1 x2 => x1 * x2) y.n x.d = 0 → (y6 (fun x1 x2 => x1 * x2) x.n y.d).length ≤ 4294967280 ∧ (y6 (fun x1 x2 => x1 * x2) y.n x.d).length ≤ 4294967280 ∧
    (YF f (y6 (fun x1 x2 => x1 * x2) x.n y.d) (y6 (fun x1 x2 => x1 * x2) y.n x.d) ≠ 0 → 2 = [AV.junk, AV.junk].length ∧ [] = R2 f x y ∧ YF f (y6 (fun x1 x2 => x1 * x2) x.n y.d) (y6 (fun x1 x2 => x1 * x2) y.n x.d) = Vv f x y) ∧
    (YF f (y6 (fun x1 x2 => x1 * x2) x.n y.d) (y6 (fun x1 x2 => x1 * x2) y.n x.d) = 0 → x.d.length ≤ 4294967280 ∧ y.d.length ≤ 4294967280 ∧
     (YF (fun x1 x2 => x1 * x2) x.d y.d ≠ 0 → 2 = [AV.junk, AV.junk].length ∧ [] = R2 f x y ∧ YF (fun x1 x2 => x1 * x2) x.d y.d = Vv f x y) ∧
     (YF (fun x1 x2 => x1 * x2) x.d y.d = 0 → ZR (y6 f (y6 (fun x1 x2 => x1 * x2) x.n y.d) (y6 (fun x1 x2 => x1 * x2) y.n x.d)) = 0 ∧ ZR (y6 (fun x1 x2 => x1 * x2) x.d y.d) = 0 ∧ zY (y6 (fun x1 x2 => x1 * x2) x.d y.d) ≠ 0 ∧
      2 = [AV.junk, AV.junk].length ∧ xX (zY (y6 f (y6 (fun x1 x2 => x1 * x2) x.n y.d) (y6 (fun x1 x2 => x1 * x2) y.n x.d))) (zY (y6 (fun x1 x2 => x1 * x2) x.d y.d)) = R2 f x y ∧ 0 = Vv f x y)))) := by
 obtain ⟨a1, a2, a3⟩ := h1
 obtain ⟨b1, b2, b3⟩ := h2
 have l1 := (yw a1).2.1
 have l2 := (yw a2).2.1
 have l3 := (yw b1).2.1
 have l4 := (yw b2).2.1
 obtain ⟨p1, p2⟩ := X9 (f := fun x1 x2 => x1 * x2) a1 b2
 obtain ⟨p3, p4⟩ := X9 (f := fun x1 x2 => x1 * x2) b1 a2
 obtain ⟨p5, p6⟩ := X9 (f := fun x1 x2 => x1 * x2) a2 b2
 have bad : ∀ e : Int, e ≠ 0 → e = Vv f x y → 2 = [AV.junk, AV.junk].length ∧ [] = R2 f x y ∧ e = Vv f x y := fun e h0 h => ⟨rfl, by unfold R2; rw [← h, beq_eq_false_iff_ne.2 h0]; rfl, h⟩
 rw [p1, p2, p3, p4, p5, p6]
 refine ⟨by omega, by omega, fun h => ⟨fun _ => bad _ h ?_, fun h0 => absurd h0 h⟩, fun g1 => ⟨by omega, by omega, fun h => bad _ h ?_, fun g2 => ?_⟩⟩
 ·unfold Vv; rw [bne_iff_ne.2 h]; rfl
 ·unfold Vv; rw [g1, bne_iff_ne.2 h]; rfl
 obtain ⟨r1, r2, r3⟩ := wD g1
 obtain ⟨r4, r5, r6⟩ := wD g2
 obtain ⟨p7, p8⟩ := X9 (f := f) r1 r4
 rw [r2, r5] at p7 p8
 rw [p7, p8]
 refine ⟨by omega, by omega, fun h => bad _ h ?_, fun g3 => ⟨by omega, by omega, fun h => bad _ h ?_, fun g4 => ?_⟩⟩
 ·unfold Vv; rw [g1, g2, bne_iff_ne.2 h]; rfl
 ·unfold Vv; rw [g1, g2, g3]; rfl
 obtain ⟨s1, s2, s3⟩ := wD g3
 obtain ⟨s4, s5, s6⟩ := wD g4
 have e : Vv f x y = 0 := by unfold Vv; rw [g1, g2, g3, g4]; rfl
 rw [s2, s5]
 exact ⟨s1, s4, Int.mul_ne_zero a3 b3, rfl, by unfold R2; rw [e]; rfl, e.symm⟩
noncomputable def gj (G : List (Nat × Obj)) : Tb := (((((WS G).plus 78 Wb).plus 64 ua).plus 118 Sl).plus 79 VO).body Tryz.prog [(58, .auto)]
theorem oZ {G : List (Nat × Obj)} (hG : zo G) : zz Tryz.prog (gj G) := zz.body mixed (zz.plus (zz.plus (zz.plus (zz.plus zQ (Ua hG)) (qj hG)) (NN hG)) (sQ hG)) _
def nU : List AV → Option (List zN × AV)
 | [.agg 2 p_x, .agg 2 p_y, .xq 1 c_cf 0] => some ([.b (Zk (p_x 0) && Zk (p_x 1)), .b (Zk (p_y 0) && Zk (p_y 1)), .b (K4 64 (c_cf 0)), .p (tj (⟨AV.bytes (p_x 0), AV.bytes (p_x 1)⟩ : Pt)), .p (tj (⟨AV.bytes (p_y 0), AV.bytes (p_y 1)⟩ : Pt))], .tup 2 (zw [.str (R2 (· + ·) (⟨AV.bytes (p_x 0), AV.bytes (p_x 1)⟩ : Pt) (⟨AV.bytes (p_y 0), AV.bytes (p_y 1)⟩ : Pt)), .i (Vv (· + ·) (⟨AV.bytes (p_x 0), AV.bytes (p_x 1)⟩ : Pt) (⟨AV.bytes (p_y 0), AV.bytes (p_y 1)⟩ : Pt))]))
 | _ => none
theorem JX (G : List (Nat × Obj)) (x : Pt) (y : Pt) (h1 : tj x) (h2 : tj y) :
 let q1 := (YF (fun (x1 x2 : Int) => x1 * x2) (Pt.n x) (Pt.d y) != iZ); let q2 := (True ∧ bA #[] = R2 (fun (x1 x2 : Int) => x1 + x2) x y); let q3 := (bA #[]); let q4 := (y6 (fun (x1 x2 : Int) => x1 * x2) (Pt.n x) (Pt.d y)); let q5 := (y6 (fun (x1 x2 : Int) => x1 * x2) (Pt.n y) (Pt.d x)); let q6 := (y6 (fun (x1 x2 : Int) => x1 + x2) q4 q5); let q7 := (y6 (fun (x1 x2 : Int) => x1 * x2) (Pt.d x) (Pt.d y)); Zw [AV.agg 2 (zV.enc x), AV.agg 2 (zV.enc y), AV.xq 1 (fun (x : Nat) => AV.fn (Fn.func (64 :
 FuncId)) 0 (fun (x : Nat) => AV.junk) 0 fun (x : Nat) => AV.junk) 0] → lN (Pt.n x) ≤ nM ∧ lN (Pt.d y) ≤ nM ∧ zZ q1 (zZ q1 (j2 ∧ q2 ∧ kI ∧ YF (fun (x1 x2 : Int) => x1 * x2) (Pt.n x) (Pt.d y) = Vv (fun (x1 x2 : Int) => x1 + x2) x y) (0 ≤ nM ∧ 0 ≤ nM ∧ j2 ∧ q2 ∧ kI ∧ YF (fun (x1 x2 : Int) => x1 + x2) q3 q3 = Vv (fun (x1 x2 : Int) => x1 + x2) x y)) (lN (Pt.n y) ≤ nM ∧ lN (Pt.d x) ≤ nM ∧ zZ (YF (fun (x1 x2
 : Int) => x1 * x2) (Pt.n y) (Pt.d x) != iZ) (j2 ∧ q2 ∧ kI ∧ YF (fun (x1 x2 : Int) => x1 * x2) (Pt.n y) (Pt.d x) = Vv (fun (x1 x2 : Int) => x1 + x2) x y) (lN q4 ≤ nM ∧ lN q5 ≤ nM ∧ zZ (YF (fun (x1 x2 : Int) => x1 + x2) q4 q5 != iZ) (j2 ∧ q2 ∧ kI ∧ YF (fun (x1 x2 : Int) => x1 + x2) q4 q5 = Vv (fun (x1 x2 : Int) => x1 + x2) x y) (lN (Pt.d x) ≤ nM ∧ lN (Pt.d y) ≤ nM ∧ zZ (YF (fun (x1 x2 : Int) => x1 * x2)
 (Pt.d x) (Pt.d y) != iZ) (j2 ∧ q2 ∧ kI ∧ YF (fun (x1 x2 : Int) => x1 * x2) (Pt.d x) (Pt.d y) = Vv (fun (x1 x2 : Int) => x1 + x2) x y) (ZR q6 = iZ ∧ ZR q7 = iZ ∧ zY q7 ≠ iZ ∧ j2 ∧ (True ∧ xX (zY q6) (zY q7) = R2 (fun (x1 x2 : Int) => x1 + x2) x y) ∧ kI ∧ iZ = Vv (fun (x1 x2 : Int) => x1 + x2) x y)))) := by
 delta bA nM kI j2 lN iZ
 dsimp only
 intro hb
 simp only [sS, dS]
 exact iq h1 h2
theorem Ir {G : List (Nat × Obj)} (hG : zo G) (x : Pt) (y : Pt) (h1 : tj x) (h2 : tj y) : zt Tryz.prog G 102 [YG x, YG y, .xq 1 (fun _ => JK 64) 0] (.tup 2 (zw [.str (R2 (· + ·) x y), .i (Vv (· + ·) x y)])) :=
 zW (T := gj G) (an := .auto) mixed (oZ hG) (Eq.mp (by kernel_rfl) (JX G x y h1 h2))
theorem Ig {G : List (Nat × Obj)} (hG : zo G) : zp Tryz.prog G 102 nU := by
 intro xs ps r h hp
 unfold nU at h
 split at h
 ·skip
  rename_i p_x p_y c_cf
  cases h
  obtain ⟨q0, q1, q2, q3, q4, -⟩ := ZI hp
  exact weaken (ys := [YG (⟨AV.bytes (p_x 0), AV.bytes (p_x 1)⟩ : Pt), YG (⟨AV.bytes (p_y 0), AV.bytes (p_y 1)⟩ : Pt), .xq 1 (fun _ => JK 64) 0]) ⟨ZU (x := .agg 2 p_x) (α := Pt) q0, ZU (x := .agg 2 p_y) (α := Pt) q1, ⟨rfl, rfl, NL q2⟩, trivial⟩ (Ir hG (⟨AV.bytes (p_x 0), AV.bytes (p_x 1)⟩ : Pt) (⟨AV.bytes (p_y 0), AV.bytes (p_y 1)⟩ : Pt) q3 q4)
 ·cases h
def R3 (x y : Pt) : Int := bif ZM (zY x.n * zY y.n) != 0 then ZM (zY x.n * zY y.n) else ZM (zY x.d * zY y.d)
def Mk (x y : Pt) : zj := bif R3 x y == 0 then xX (zY x.n * zY y.n) (zY x.d * zY y.d) else []
def N4 : List AV → Option (List zN × AV)
 | [.agg 2 p_x, .agg 2 p_y] => some ([.b (Zk (p_x 0) && Zk (p_x 1)), .b (Zk (p_y 0) && Zk (p_y 1)), .p (tj (⟨AV.bytes (p_x 0), AV.bytes (p_x 1)⟩ : Pt)), .p (tj (⟨AV.bytes (p_y 0), AV.bytes (p_y 1)⟩ : Pt))], .tup 2 (zw [.str (Mk (⟨AV.bytes (p_x 0), AV.bytes (p_x 1)⟩ : Pt) (⟨AV.bytes (p_y 0), AV.bytes (p_y 1)⟩ : Pt)), .i (R3 (⟨AV.bytes (p_x 0), AV.bytes (p_x 1)⟩ : Pt) (⟨AV.bytes (p_y 0), AV.bytes (p_y 1)⟩ : Pt))]))
 | _ => none
theorem Js (G : List (Nat × Obj)) (x : Pt) (y : Pt) (h1 : tj x) (h2 : tj y) :
 let q1 := (True ∧ bA #[] = Mk x y); let q2 := (y6 (fun (x1 x2 : Int) => x1 * x2) (Pt.n x) (Pt.n y)); let q3 := (y6 (fun (x1 x2 : Int) => x1 * x2) (Pt.d x) (Pt.d y)); Zw [AV.agg 2 (zV.enc x), AV.agg 2 (zV.enc y)] → lN (Pt.n x) ≤ nM ∧ lN (Pt.n y) ≤ nM ∧ zZ (YF (fun (x1 x2 : Int) => x1 * x2) (Pt.n x) (Pt.n y) != iZ) (j2 ∧ q1 ∧ kI ∧ YF (fun (x1 x2 : Int) => x1 * x2) (Pt.n x) (Pt.n y) = R3 x y) (lN (Pt.d x) ≤ nM ∧ lN (Pt.d y) ≤
 nM ∧ zZ (YF (fun (x1 x2 : Int) => x1 * x2) (Pt.d x) (Pt.d y) != iZ) (j2 ∧ q1 ∧ kI ∧ YF (fun (x1 x2 : Int) => x1 * x2) (Pt.d x) (Pt.d y) = R3 x y) (ZR q2 = iZ ∧ ZR q3 = iZ ∧ zY q3 ≠ iZ ∧ j2 ∧ (True ∧ xX (zY q2) (zY q3) = Mk x y) ∧ kI ∧ iZ = R3 x y)) := by
 delta bA nM kI j2 lN iZ
 dsimp only
 intro hb
 simp only [sS, dS]
 obtain ⟨a1, a2, a3⟩ := h1
 obtain ⟨b1, b2, b3⟩ := h2
 have l1 := (yw a1).2.1
 have l2 := (yw a2).2.1
 have l3 := (yw b1).2.1
 have l4 := (yw b2).2.1
 obtain ⟨p1, p2⟩ := X9 (f := fun x1 x2 => x1 * x2) a1 b1
 obtain ⟨p5, p6⟩ := X9 (f := fun x1 x2 => x1 * x2) a2 b2
 have bad : ∀ e : Int, e ≠ 0 → e = R3 x y → 2 = [AV.junk, AV.junk].length ∧ [] = Mk x y ∧ e = R3 x y := fun e h0 h => ⟨rfl, by unfold Mk; rw [← h, beq_eq_false_iff_ne.2 h0]; rfl, h⟩
 rw [p1, p2, p5, p6]
 refine ⟨by omega, by omega, fun h => bad _ h ?_, fun g1 => ⟨by omega, by omega, fun h => bad _ h ?_, fun g4 => ?_⟩⟩
 ·unfold R3; rw [bne_iff_ne.2 h]; rfl
 ·unfold R3; rw [g1]; rfl
 obtain ⟨s1, s2, s3⟩ := wD g1
 obtain ⟨s4, s5, s6⟩ := wD g4
 have e : R3 x y = 0 := by unfold R3; rw [g1, g4]; rfl
 rw [s2, s5]
 exact ⟨s1, s4, Int.mul_ne_zero a3 b3, rfl, by unfold Mk; rw [e]; rfl, e.symm⟩
theorem I2 {G : List (Nat × Obj)} (hG : zo G) (x : Pt) (y : Pt) (h1 : tj x) (h2 : tj y) : zt Tryz.prog G 77 [YG x, YG y] (.tup 2 (zw [.str (Mk x y), .i (R3 x y)])) :=
 zW (T := ((WS G).plus 78 Wb).plus 79 VO) (an := .auto) mixed (zz.plus (zz.plus zQ (Ua hG)) (sQ hG)) (Eq.mp (by kernel_rfl) (Js G x y h1 h2))
theorem ID {G : List (Nat × Obj)} (hG : zo G) : zp Tryz.prog G 77 N4 := by
 intro xs ps r h hp
 unfold N4 at h
 split at h
 ·skip
  rename_i p_x p_y
  cases h
  obtain ⟨q0, q1, q2, q3, -⟩ := ZI hp
  exact weaken (ys := [YG (⟨AV.bytes (p_x 0), AV.bytes (p_x 1)⟩ : Pt), YG (⟨AV.bytes (p_y 0), AV.bytes (p_y 1)⟩ : Pt)]) ⟨ZU (x := .agg 2 p_x) (α := Pt) q0, ZU (x := .agg 2 p_y) (α := Pt) q1, trivial⟩ (I2 hG (⟨AV.bytes (p_x 0), AV.bytes (p_x 1)⟩ : Pt) (⟨AV.bytes (p_y 0), AV.bytes (p_y 1)⟩ : Pt) q2 q3)
 ·cases h
end Go.Te
