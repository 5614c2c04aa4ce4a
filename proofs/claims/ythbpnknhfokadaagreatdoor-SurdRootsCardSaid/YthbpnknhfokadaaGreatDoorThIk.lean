/- integer: Divide, Gcd. -/
import Derived.Test.YthbpnknhfokadaaGreatDoorThIi
set_option linter.unusedSimpArgs false
set_option linter.unusedVariables false
namespace Go.Te
open Go Go.Sx Go.Proofs Go.Ar
set_option maxRecDepth 100000
set_option maxHeartbeats 4000000
theorem mY (m t : Bool) {A B q r : Int} (hB : 0 < B) (h : r + B * q = bif !(m == t) then -A else A) (h0 : 0 ≤ r) (h1 : r < B) :
  Int.fdiv (bif m then -A else A) (bif t then -B else B) = q ∧ Int.fmod (bif m then -A else A) (bif t then -B else B) = bif t then -r else r := by
 cases t with
 | false =>
  refine SK ?_ (.inl ⟨hB, h0, h1⟩)
  cases m <;> simpa using h
 | true =>
  refine SK ?_ (.inr ⟨by simp; omega, by simp; omega, by simp; omega⟩)
  cases m <;> simp [Int.neg_mul] at h ⊢ <;> omega
theorem Wu (n : Bool) (k : Nat) : Yz n (zu 1000000000 k) = bif n then -(k : Int) else k := by unfold Yz; rw [xJ]
theorem MU {a b : zI} (h : XU a b ≠ 0) : Yv a b = [] ∧ Vq a b = [] := by
 unfold Yv Vq
 rw [beq_eq_false_iff_ne.2 h]
 exact ⟨rfl, rfl⟩
theorem Qs {a b : zI} (h : XU a b = 0) : Yv a b = Lib.itoa (Int.fdiv (zX a) (zX b)) ∧ Vq a b = Lib.itoa (Int.fmod (zX a) (zX b)) := by
 unfold Yv Vq
 rw [h]
 exact ⟨rfl, rfl⟩
theorem TQ {a : zI} (h : ZR a = 0) : (zX a).natAbs < 10 ^ 300 := by
 obtain ⟨h1, h2⟩ := yS.1 h
 rw [wP h1] at h2
 exact (z7 (k := 300) (u := (zX a).natAbs) (by omega)).1 h2
theorem iy {b : zI} (h : Zx b = true) (h0 : b ≠ [48]) : zX b ≠ 0 := fun e => h0 (by
 rw [← YD h, e]
 have : Lib.itoa ((0 : Nat) : Int) = [48] := by rw [Go.Ar.Z6, Zz (by omega)]; rfl
 exact this)
theorem rp {a : zI} (h : Zx a = true) : (bif zJ a then -((zX a).natAbs : Int) else ((zX a).natAbs : Int)) = zX a := by
 have := xY h
 rw [Wu] at this
 exact this
theorem MM (l : List Int) : yR (AV.agg 2 (zw [AV.v ((Value.agg #[Value.bool false, Value.slice none 0 0]).cells.getD 0 undef), AV.xl false 1 l.length fun i j => AV.v (Value.int IntKind.i64 (l.getD i 0))])) = (⟨false, l⟩ : Big) := xA false l
theorem QP (l : List Int) : yp Big (AV.agg 2 (zw [AV.v ((Value.agg #[Value.bool false, Value.slice none 0 0]).cells.getD 0 undef), AV.xl false 1 l.length fun i j => AV.v (Value.int IntKind.i64 (l.getD i 0))])) = true := Y8 false l
def SL : List AV → Option (List zk × AV)
 | [.str a, .str b] => some ([.p (a.length ≤ 4294967280), .p (b.length ≤ 4294967280)], .tup 3 (zw [.str (Yv a b), .str (Vq a b), .i (XU a b)]))
 | _ => none
theorem kU (G : List (Nat × Obj)) (a : List UInt8) (b : List UInt8) (hla : a.length ≤ 4294967280) (hlb : b.length ≤ 4294967280) :
 let q1 := ((True ∧ bA #[] = Yv a b) ∧ bA #[] = Vq a b); let q3 := (bif leB (lZ a) (18 : Int) && leB (lZ b) (18 : Int) then zX b else iZ); let q2 := (DB.db (q3 ≠ iZ)); let q5 := (bif leB (lZ a) (18 : Int) && leB (lZ b) (18 : Int) then zX a else iZ); let q4 := (Int.tdiv q5 q3); let q7 := (Int.tmod q5 q3 != iZ); let q6 := (!zr true q7 || zr true q7); let q8 := (Int.tmod q5 q3); let q9 := (Int.tdiv q5 q3 -
 iO); let q10 := (Int.tmod q5 q3 + bif leB (lZ a) (18 : Int) && leB (lZ b) (18 : Int) then zX b else iZ); let q12 := (zu 1000000000 (Int.natAbs (zX a))); let q11 := (xI q12); let q15 := (zu 1000000000 (Int.natAbs (zX b))); let q14 := (xI q15); let q13 := (zC Int q14); let q16 := (zV q11); let q18 := (zV q14); let q17 := (∀ (x : Int), List.Mem x q18 → (0 :
 Int) ≤ x ∧ x < iB); let q19 := (!zr true !zJ a == zJ b || zr true !zJ a == zJ b); let q22 := (zv iB q16); let q23 := (zv iB q18); let q21 := (zu 1000000000 (Int.toNat q22 % Int.toNat q23)); let q20 := (lN q21); let q26 := (zu 1000000000 (Int.toNat q22 / Int.toNat q23)); let q25 := (lN q26); let q24 := (AV.xl false 1 q25 fun i j => aI (gD q26 i zS.dflt)); let q27 := (zV q24); let q28 := (zV (AV.xl true 1 1 (Sx.rowAt [fun (x : Nat) => aI iO]))); let
 q29 := (AV.xl false 1 q20 fun i j => aI (gD q21 i zS.dflt)); let q30 := (zV q29); let q32 := (zu 1000000000 (Int.toNat (zv iB q27 + zv iB q28))); let q31 := (AV.agg 2 (zw [AV.v (Value.bool !zJ a == zJ b), xI q32])); let q35 := (yR q31); let q34 := (Big.l q35); let q37 := (zu 1000000000 (Int.toNat (zv iB q18 - zv iB q30))); let q36 := (AV.agg 2 (zw [AV.v (Value.bool (zJ b)), AV.xl false 1
 (lN q37) fun i j => aI (gD q37 i zS.dflt)])); let q39 := (yR q36); let q38 := (Big.l q39); let q41 := (Yz (Big.neg q35) q34); let q40 := (ZM q41 != iZ); let q42 := (Yz (Big.neg q39) q38); let q43 := (3 = lN [AV.junk, AV.junk, AV.junk] ∧ q1 ∧ kI ∧ (4 : Int) = XU a b); let q44 := (AV.agg 2 (zw [AV.v (Value.bool !zJ a == zJ b), AV.xl false 1 q25 fun i j => aI (gD q26 i zS.dflt)])); let q46 := (yR q44); let q45 := (Big.l q46); let q47 := (AV.agg 2 (zw [AV.v (Value.bool (zJ b)),
 AV.xl false 1 q20 fun i j => aI (gD q21 i zS.dflt)])); let q49 := (yR q47); let q48 := (Big.l q49); let q51 := (Yz (Big.neg q46) q45); let q50 := (ZM q51 != iZ); let q52 := (Yz (Big.neg q49) q48); Zv [AV.str a, AV.str b] → lN a ≤ nM ∧ lN b ≤ nM ∧ zZ (zB a b != iZ) (3 = lN [AV.junk, AV.junk, AV.junk] ∧ q1 ∧ kI ∧ zB a b = XU a b) (zZ (b == bA #[(48 : UInt8)]) (3 = lN [AV.junk, AV.junk, AV.junk] ∧ q1 ∧ kI ∧
 (12 : Int) = XU a b) (Zx a = true ∧ Zx b = true ∧ (18 : Int) = (18 : Int) ∧ zZ (leB (lZ a) (18 : Int) && leB (lZ b) (18 : Int)) (bF q2 (bF (dK q4) (bF q2 (bF q6 (bF q6 (bF q6 (bF q6 (bF (!Int.tmod q5 q3 != iZ || zr true q7) (zZ (bif Int.tmod q5 q3 != iZ then !zF q8 iZ == zF q3 iZ else false) (bF (dK q9) (bF (dK q10) ((iN ≤ Int.tdiv q5 q3 - iO ∧ Int.tdiv q5 q3 - iO ≤ iX)
 ∧ ((iN ≤ Int.tmod q5 q3 + bif leB (lZ a) (18 : Int) && leB (lZ b) (18 : Int) then zX b else iZ) ∧ q10 ≤ iX) ∧ 3 = lN [AV.junk, AV.junk, AV.junk] ∧ ((True ∧ Lib.itoa q9 = Yv a b) ∧ Lib.itoa q10 = Vq a b) ∧ kI ∧ iZ = XU a b))) ((iN ≤ Int.tdiv q5 q3 ∧ Int.tdiv q5 q3 ≤ iX) ∧ (iN ≤ Int.tmod q5 q3 ∧ Int.tmod q5 q3 ≤ iX) ∧ 3 = lN [AV.junk, AV.junk,
 AV.junk] ∧ ((True ∧ Lib.itoa q4 = Yv a b) ∧ Lib.itoa q8 = Vq a b) ∧ kI ∧ iZ = XU a b)))))))))) (Zx a = true ∧ lN a ≤ 100000000 ∧ Zx b = true ∧ lN b ≤ 100000000 ∧ bF (zC Int q11) (bF q13 ((∀ (x : Int), List.Mem x q16 → iZ ≤ x ∧ x < iB) ∧ q17 ∧ zH q16 = zV q11 ∧ zH q18 = zV q14 ∧ lN q18 ≠ 0 ∧ lN q16 ≤ 100000000 ∧ lN q18 ≤ 100000000 ∧ bF q19 (bF q19 (bF (!!zJ a == zJ b || zr true !zJ a == zJ b) (zZ
 (bif !zJ a == zJ b then zF iZ (cI q20) else false) (bF (zC Int q24) ((∀ (x : Int), List.Mem x q27 → iZ ≤ x ∧ x < iB) ∧ (∀ (x : Int), List.Mem x (zV (AV.xl true 1 1 (Sx.rowAt [fun (x : Nat) => aI iO]))) → iZ ≤ x ∧ x < iB) ∧ lN q27 ≤ 1000000000 ∧ lN q28 ≤ 1000000000 ∧ bF q13 (bF (zC Int q29) (q17 ∧ (∀ (x : Int), List.Mem x q30 → iZ ≤ x ∧ x < iB) ∧ lN q18 ≤ 1000000000 ∧ lN q30 ≤ 1000000000 ∧ zv iB q30 ≤ zv
 iB q18 ∧ bF (yp Big q31) ((∀ (x : Int), let q33 := (zu 1000000000 (Int.toNat (zv iB q27 + zv iB (zV (AV.xl true 1 1 (Sx.rowAt [fun (x : Nat) => aI iO])))))); List.Mem x (Big.l (yR (AV.agg 2 (zw [AV.v (Value.bool !zJ a == zJ b), xI q33])))) → iZ ≤ x ∧ x < iB) ∧ zH q34 = Big.l q35 ∧ lN q34 ≤ 100000000 ∧ bF (yp Big q36) ((∀ (x : Int), List.Mem x q38 → iZ ≤ x ∧ x <
 iB) ∧ zH q38 = Big.l q39 ∧ lN q38 ≤ 100000000 ∧ bF (!zr false q40 || zr false q40) (bF (!!ZM q41 != iZ || zr false q40) (zZ (bif ZM q41 != iZ then true else ZM q42 != iZ) q43 (3 = lN [AV.junk, AV.junk, AV.junk] ∧ ((True ∧ Yi q41 = Yv a b) ∧ Yi q42 = Vq a b) ∧ kI ∧ iZ = XU a b))))))))) (bF (yp Big q44) ((∀ (x : Int), List.Mem x q45 → iZ ≤ x ∧ x < iB) ∧ zH q45 = Big.l q46 ∧ lN q45 ≤ 100000000 ∧ zZ
 (yp Big q47) ((∀ (x : Int), List.Mem x q48 → iZ ≤ x ∧ x < iB) ∧ zH q48 = Big.l q49 ∧ lN q48 ≤ 100000000 ∧ bF (!zr false q50 || zr false q50) (bF (!!ZM q51 != iZ || zr false q50) (zZ (bif ZM q51 != iZ then true else ZM q52 != iZ) q43 (3 = lN [AV.junk, AV.junk, AV.junk] ∧ ((True ∧ Yi q51 = Yv a b) ∧ Yi q52 = Vq a b) ∧ kI ∧ iZ = XU a b)))) False)))))))))) := by
 delta bF dK bA xI nM cI kI lZ lN gD iZ iO iX iN iB aI
 dsimp only
 intro hb
 have e0 : (zS.dflt : Int) = 0 := rfl
 simp only [↓yx, ↓ZI, row_one]
 simp only [sS, dS, e0, Xq, xu, xA, Y8, wm, Xo, wy, Xw, X6, li, xJ, LU, MM, QP]
 refine ⟨by omega, by omega, fun hE => ?_, fun hE => zY.2 ⟨fun c0 => ?_, fun c0 => ?_⟩⟩
 ·have e : XU a b = zB a b := by unfold XU; rw [bne_iff_ne.2 hE]; rfl
  obtain ⟨d1, d2⟩ := MU (a := a) (b := b) (by rw [e]; exact hE)
  exact ⟨rfl, ⟨d1.symm, d2.symm⟩, e.symm⟩
 ·have e : XU a b = 12 := by unfold XU; rw [hE, c0]; rfl
  obtain ⟨d1, d2⟩ := MU (a := a) (b := b) (by rw [e]; decide)
  exact ⟨rfl, ⟨d1.symm, d2.symm⟩, e.symm⟩
 have e : XU a b = 0 := by unfold XU; rw [hE, c0]; rfl
 obtain ⟨d1, d2⟩ := Qs e
 obtain ⟨hA, hB⟩ := xW hE
 obtain ⟨a1, a2, a3⟩ := yt hA
 obtain ⟨b1, b2, b3⟩ := yt hB
 have a4 := TQ hA
 have b4 := TQ hB
 have hv := iy b3 (beq_eq_false_iff_ne.1 c0)
 rw [d1, d2, e]
 refine ⟨a3, b3, zY.2 ⟨fun c => ?_, fun c => ?_⟩⟩
 ·rw [c]
  rw [Bool.and_eq_true] at c
  have x1 := KD a3 c.1
  have x2 := KD b3 c.2
  simp only [cond_true]
  obtain ⟨f1, f2, f3, f4⟩ := NS (a := zX a) (b := zX b) hv
  refine ⟨hv, ⟨by omega, by omega⟩, hv, zY.2 ⟨fun cc => ?_, fun cc => ?_⟩⟩
  ·obtain ⟨g1, g2⟩ := f1 cc
   rw [g1, g2]
   exact ⟨⟨by omega, by omega⟩, ⟨by omega, by omega⟩, ⟨by omega, by omega⟩, ⟨by omega, by omega⟩, rfl, ⟨rfl, rfl⟩, trivial⟩
  ·obtain ⟨g1, g2⟩ := f2 cc
   rw [g1, g2]
   exact ⟨⟨by omega, by omega⟩, ⟨by omega, by omega⟩, rfl, ⟨rfl, rfl⟩, trivial⟩
 have wa := rp a3
 have wb := rp b3
 have la := wH a1
 have lb := wH b1
 have hB0 : 0 < (zX b).natAbs := by omega
 have hdm := Nat.div_add_mod (zX a).natAbs (zX b).natAbs
 have hml := Nat.mod_lt (zX a).natAbs hB0
 have hdl : (zX a).natAbs / (zX b).natAbs ≤ (zX a).natAbs := Nat.div_le_self _ _
 have lb0 : (zu 1000000000 (zX b).natAbs).length ≠ 0 := fun e => by have := X0 (b := 1000000000) (by omega) e; omega
 have lq := yz (b := 1000000000) (by omega) hdl
 have lr := yz (b := 1000000000) (by omega) (Nat.le_of_lt hml)
 rw [← wa, ← wb]
 rw [show (bif zJ a then -((zX a).natAbs : Int) else ((zX a).natAbs : Int)).natAbs = (zX a).natAbs from by rw [wa], show (bif zJ b then -((zX b).natAbs : Int) else ((zX b).natAbs : Int)).natAbs = (zX b).natAbs from by rw [wb]]
 clear wa wb e d1 d2 hv a1 b1 c
 generalize hAA : (zX a).natAbs = A at *
 generalize hBB : (zX b).natAbs = B at *
 generalize zJ a = m at *
 generalize zJ b = t at *
 have hdmI : (B : Int) * ((A / B : Nat) : Int) + ((A % B : Nat) : Int) = (A : Int) := by exact_mod_cast hdm
 generalize A / B = Q at *
 generalize A % B = R at *
 refine ⟨a3, by omega, b3, by omega, (Zf _).1, (Zf _).1, (Zf _).2, (Zf _).2, lb0, by omega, by omega, zY.2 ⟨fun cc => ?_, fun cc => ?_⟩⟩
 ·rw [Bool.and_eq_true, zp] at cc
  have hr0 : R ≠ 0 := fun e => by have := cc.2; rw [e, Z0] at this; exact absurd this (by decide)
  have hB2 : 2 * Q ≤ B * Q := Nat.mul_le_mul_right _ (by omega)
  have eq : ((Q : Int) + 1).toNat = Q + 1 := by omega
  have er : ((B : Int) - (R : Int)).toNat = B - R := by omega
  obtain ⟨g1, g2⟩ := mY m t (A := A) (B := B) (q := -((Q + 1 : Nat) : Int)) (r := ((B - R : Nat) : Int)) (by omega) (by
   rw [cc.1, cond_true, Int.mul_neg, Int.natCast_add, Int.mul_add]; omega) (by omega) (by omega)
  have lq2 := yz (b := 1000000000) (m := Q + 1) (n := A) (by omega) (by omega)
  have lr2 := yz (b := 1000000000) (m := B - R) (n := B) (by omega) (by omega)
  simp only [eq, er, Wu]
  rw [g1, g2, cc.1, cond_true]
  obtain ⟨r1, r2⟩ := Zo (n := -((Q + 1 : Nat) : Int)) (k := 300) (by omega) (by omega) (by rw [Int.natAbs_neg, Int.natAbs_natCast]; omega)
  obtain ⟨r3, r4⟩ := Zo (n := bif t then -((B - R : Nat) : Int) else ((B - R : Nat) : Int)) (k := 300) (by omega) (by omega) (by cases t <;> simp only [cond_true, cond_false, Int.natAbs_neg, Int.natAbs_natCast] <;> omega)
  rw [r1, r2, r3, r4]
  have o1 : ZP 1000000000 [1] := .one (by omega) (by omega)
  refine ⟨(Zf _).1, o1, by omega, by simp, (Zf _).1, (Zf _).1, by omega, by omega, by omega, (Zf _).1, (Zf _).2, by omega, (Zf _).1, (Zf _).2, by omega, ?_⟩
  exact ⟨rfl, ⟨rfl, rfl⟩, trivial⟩
 ·have hq : Int.fdiv (bif m then -(A : Int) else (A : Int)) (bif t then -(B : Int) else (B : Int)) = (bif !(m == t) then -(Q : Int) else (Q : Int)) ∧
    Int.fmod (bif m then -(A : Int) else (A : Int)) (bif t then -(B : Int) else (B : Int)) = bif t then -(R : Int) else (R : Int) := by
   refine mY m t (by omega) ?_ (by omega) (by omega)
   cases hs : !(m == t) with
   | false => simp only [cond_false]; omega
   | true =>
    rw [hs, Bool.true_and] at cc
    have hr0 : R = 0 := by
     refine Decidable.byContradiction fun hn => ?_
     have h1 : (zu 1000000000 R).length ≠ 0 := fun e => hn (X0 (b := 1000000000) (by omega) e)
     rw [(zp _ _).2 (by omega)] at cc
     cases cc
    rw [hr0] at hdmI ⊢
    simp only [cond_true, Int.mul_neg]
    omega
  obtain ⟨g1, g2⟩ := hq
  simp only [Wu]
  rw [g1, g2]
  obtain ⟨r1, r2⟩ := Zo (n := bif !(m == t) then -(Q : Int) else (Q : Int)) (k := 300) (by omega) (by omega) (by cases !(m == t) <;> simp only [cond_true, cond_false, Int.natAbs_neg, Int.natAbs_natCast] <;> omega)
  obtain ⟨r3, r4⟩ := Zo (n := bif t then -(R : Int) else (R : Int)) (k := 300) (by omega) (by omega) (by cases t <;> simp only [cond_true, cond_false, Int.natAbs_neg, Int.natAbs_natCast] <;> omega)
  rw [r1, r2, r3, r4]
  exact ⟨(Zf _).1, (Zf _).2, by omega, (Zf _).1, (Zf _).2, by omega, rfl, ⟨rfl, rfl⟩, trivial⟩
theorem Jd {G : List (Nat × Obj)} (hG : zN G) (a : List UInt8) (b : List UInt8) (hla : a.length ≤ 4294967280) (hlb : b.length ≤ 4294967280) : zU Tryz.prog G 115 [.str a, .str b] (.tup 3 (zw [.str (Yv a b), .str (Vq a b), .i (XU a b)])) :=
 zW (T := iW G) (an := .auto) mixed (XY hG) (Eq.mp (by kernel_rfl) (kU G a b hla hlb))
theorem Og {G : List (Nat × Obj)} (hG : zN G) : zO Tryz.prog G 115 SL := by
 intro xs ps r h hp
 unfold SL at h
 split at h
 ·skip
  rename_i a b
  cases h
  obtain ⟨q0, q1, -⟩ := ZH hp
  exact weaken (ys := [.str a, .str b]) ⟨zT _, zT _, trivial⟩ (Jd hG a b q0 q1)
 ·cases h
structure wh where
 x : Int
 y : Int
structure vG where
 x : Nat
 y : Nat
def M4 (a b : zI) : yq :=
 .two .auto (.two .auto (.two (.two .auto (.two .auto (.two (.two (.one (.loop wh (fun σ z => [(7, .i z.x), (8, .i z.y)]) (fun σ z => []) 0 (fun σ z => Nat.gcd z.x.natAbs z.y.natAbs = yk a b ∧ z.x.natAbs ≤ 1000000000000000000 ∧ z.y.natAbs ≤ 1000000000000000000) (fun σ z => z.y.natAbs) .auto)) .auto) .auto))) (.two .auto (.two (.one (.loop vG (fun σ z => [(10, ZD (zu 1000000000 z.x)), (11, ZD (zu 1000000000 z.y))]) (fun σ z => []) 0 (fun σ z => Nat.gcd z.x z.y = yk a b ∧ (zu 1000000000 z.x).length ≤ 100000000 ∧ (zu 1000000000 z.y).length ≤ 100000000) (fun σ z => z.y) .auto)) .auto))))
def TA : List AV → Option (List zk × AV)
 | [.str a, .str b] => some ([.p (a.length ≤ 4294967280), .p (b.length ≤ 4294967280)], .tup 2 (zw [.str (bif zB a b != 0 then [] else Lib.itoa (yk a b : Int)), .i (zB a b)]))
 | _ => none
theorem kf (G : List (Nat × Obj)) (a : List UInt8) (b : List UInt8) (hla : a.length ≤ 4294967280) (hlb : b.length ≤ 4294967280) :
 let q2 := (zu 1000000000 (Int.natAbs (zX a))); let q3 := (zu 1000000000 (Int.natAbs (zX b))); Zv [AV.str a, AV.str b] → lN a ≤ nM ∧ lN b ≤ nM ∧ zZ (zB a b != iZ) (j2 ∧ (True ∧ bA #[] = bif zB a b != iZ then [] else Lib.itoa (cI (yk a b))) ∧ kI ∧ zB a b = zB a b) (Zx a = true ∧ Zx b = true ∧ (18 : Int) = (18 : Int) ∧ zZ (leB (lZ a) (18 : Int) && leB (lZ b) (18 : Int)) ((∃ (z : wh),
 ((Nat.gcd (Int.natAbs (wh.x z)) (Int.natAbs (wh.y z)) = yk a b ∧ Int.natAbs (wh.x z) ≤ 1000000000000000000 ∧ Int.natAbs (wh.y z) ≤ 1000000000000000000) ∧ (kI ∧ (bif leB (lZ a) (18 : Int) && leB (lZ b) (18 : Int) then zX a else iZ) = wh.x z) ∧ kI ∧ (bif leB (lZ a) (18 : Int) && leB (lZ b) (18 : Int) then zX b else iZ) = wh.y z) ∧ True) ∧ ∀ (z : wh), let q1 := (if -wh.x z > wh.x z then -wh.x z else wh.x z); Nat.gcd (Int.natAbs (wh.x z)) (Int.natAbs (wh.y z)) =
 yk a b ∧ Int.natAbs (wh.x z) ≤ 1000000000000000000 ∧ Int.natAbs (wh.y z) ≤ 1000000000000000000 → zZ (wh.y z != iZ) (bF (DB.db (wh.y z ≠ iZ)) (∃ (z' : wh), (((Nat.gcd (Int.natAbs (wh.x z')) (Int.natAbs (wh.y z')) = yk a b ∧ Int.natAbs (wh.x z') ≤ 1000000000000000000 ∧ Int.natAbs (wh.y z') ≤ 1000000000000000000) ∧ Int.natAbs (wh.y z') < Int.natAbs (wh.y z)) ∧ (kI ∧ wh.y z = wh.x z') ∧ kI ∧ Int.tmod (wh.x z) (wh.y z) = wh.y z') ∧ True)) (bF (dK (-wh.x z)) (((iN ≤ if -wh.x z
 > wh.x z then -wh.x z else wh.x z) ∧ q1 ≤ iX) ∧ j2 ∧ (True ∧ Lib.itoa q1 = bif zB a b != iZ then [] else Lib.itoa (cI (yk a b))) ∧ kI ∧ iZ = zB a b))) (Zx a = true ∧ lN a ≤ 100000000 ∧ Zx b = true ∧ lN b ≤ 100000000 ∧ (∃ (z : vG), ((Nat.gcd (vG.x z) (vG.y z) = yk a b ∧ lN (zu 1000000000 (vG.x z)) ≤ 100000000 ∧ lN (zu 1000000000 (vG.y z)) ≤ 100000000) ∧ zb (AV.xl false 1 (lN q2) fun i j => aI (gD q2 i
 zS.dflt)) (xI (zu 1000000000 (vG.x z))) ∧ (false = true → false = true) ∧ 1 = 1 ∧ lN (zu 1000000000 (vG.y z)) = lN q3 ∧ ∀ (i j : Nat), i < lN q3 → j < 1 → kI ∧ gD q3 i zS.dflt = gD (zu 1000000000 (vG.y z)) i zS.dflt) ∧ True) ∧ ∀ (z : vG), let q4 := (lN (zu 1000000000 (vG.y z))); let q6 := (lN (zu 1000000000 (vG.x z))); let q5 := (AV.xl false 1 q6 fun i j => aI (List.getD
 (zu 1000000000 (vG.x z)) i zS.dflt)); let q7 := (AV.xl false 1 q4 fun i j => aI (gD (zu 1000000000 (vG.y z)) i zS.dflt)); let q8 := (zV q5); let q9 := (zV q7); let q10 := (zu 1000000000 (Int.toNat (zv iB q8) % Int.toNat (zv iB q9))); let q11 := (AV.agg 2 (zw [AV.v (Array.getD (Value.cells (Value.agg #[Value.bool false, Value.slice (X9 Addr) 0 0])) 0 undef), AV.xl false 1 q6 fun i j => aI (gD (zu 1000000000 (vG.x z)) i zS.dflt)])); let q13 := (yR q11); let q12 := (Big.l q13);
 let q14 := (Yz (Big.neg q13) q12); Nat.gcd (vG.x z) (vG.y z) = yk a b ∧ lN (zu 1000000000 (vG.x z)) ≤ 100000000 ∧ lN (zu 1000000000 (vG.y z)) ≤ 100000000 → zZ (zF iZ (cI q4)) (bF (zC Int q5) (bF (zC Int q7) ((∀ (x : Int), List.Mem x q8 → iZ ≤ x ∧ x < iB) ∧ (∀ (x : Int), List.Mem x q9 → iZ ≤ x ∧ x < iB) ∧ zH q8 = zV q5 ∧ zH q9 = zV q7 ∧ lN q9 ≠ 0 ∧ lN q8 ≤ 100000000 ∧ lN q9 ≤ 100000000 ∧ ∃ (z' : vG), (((Nat.gcd (vG.x z') (vG.y z') = yk a b ∧
 lN (zu 1000000000 (vG.x z')) ≤ 100000000 ∧ lN (zu 1000000000 (vG.y z')) ≤ 100000000) ∧ vG.y z' < vG.y z) ∧ zb q7 (xI (zu 1000000000 (vG.x z'))) ∧ (false = true → false = true) ∧ 1 = 1 ∧ lN (zu 1000000000 (vG.y z')) = lN q10 ∧ ∀ (i j : Nat), i < lN q10 → j < 1 → kI ∧ gD q10 i zS.dflt = gD (zu 1000000000 (vG.y z')) i zS.dflt) ∧ True))) (bF (yp Big q11) ((∀ (x : Int),
 List.Mem x q12 → iZ ≤ x ∧ x < iB) ∧ zH q12 = Big.l q13 ∧ lN q12 ≤ 100000000 ∧ j2 ∧ (True ∧ Yi q14 = bif zB a b != iZ then [] else Lib.itoa (cI (yk a b))) ∧ kI ∧ ZM q14 = zB a b)))) := by
 delta bF dK bA xI nM cI kI j2 lZ lN gD iZ iX iN iB aI
 dsimp only
 intro hb
 have e0 : (zS.dflt : Int) = 0 := rfl
 simp only [↓yx, ↓ZI, row_one]
 simp only [sS, dS, e0, Xq, xu, xA, Y8, wm, Xo, wy, Xw, X6, li, xJ, LU, MM, QP]
 refine ⟨by omega, by omega, fun hE => ⟨rfl, by rw [bne_iff_ne.2 hE]; rfl⟩, fun hE => ?_⟩
 obtain ⟨hA, hB⟩ := xW hE
 obtain ⟨a1, a2, a3⟩ := yt hA
 obtain ⟨b1, b2, b3⟩ := yt hB
 have la := wH a1
 have lb := wH b1
 have gl : yk a b ≤ (zX a).natAbs + (zX b).natAbs := by
  unfold yk
  by_cases h : (zX a).natAbs = 0
  ·rw [h, Nat.gcd_zero_left]; omega
  ·exact Nat.le_trans (Nat.le_of_dvd (by omega) (Nat.gcd_dvd_left _ _)) (by omega)
 have a4 := TQ hA
 have b4 := TQ hB
 have gl3 : yk a b < 10 ^ 300 := by
  unfold yk
  by_cases h : (zX a).natAbs = 0
  ·rw [h, Nat.gcd_zero_left]; exact b4
  ·exact Nat.lt_of_le_of_lt (Nat.le_of_dvd (by omega) (Nat.gcd_dvd_left _ _)) a4
 rw [hE]
 simp only [bne_self_eq_false, cond_false]
 refine ⟨a3, b3, zY.2 ⟨fun c => ?_, fun c => ?_⟩⟩
 ·rw [c]
  rw [Bool.and_eq_true] at c
  have x1 := KD a3 c.1
  have x2 := KD b3 c.2
  simp only [cond_true]
  refine ⟨⟨⟨zX a, zX b⟩, ⟨rfl, by simp only; omega, by simp only; omega⟩, rfl, rfl⟩, fun z ⟨z1, z2, z3⟩ => ⟨fun hy => ⟨hy, ⟨z.y, z.x.tmod z.y⟩, ⟨⟨?_, z3, ?_⟩, ?_⟩, rfl, rfl⟩, fun hy => ?_⟩⟩
  ·rw [Int.natAbs_tmod, ← uG (y := z.y.natAbs) (by omega), z1]
  ·rw [Int.natAbs_tmod]
   have : z.x.natAbs % z.y.natAbs ≤ z.x.natAbs := Nat.mod_le _ _
   omega
  ·rw [Int.natAbs_tmod]
   exact Nat.mod_lt _ (by omega)
  ·rw [hy, Int.natAbs_zero, Nat.gcd_zero_right] at z1
   rw [qv, z1]
   rw [z1] at z2
   exact ⟨⟨by omega, by omega⟩, ⟨by omega, by omega⟩, rfl, rfl, trivial⟩
 ·refine ⟨a3, by omega, b3, by omega, ⟨⟨(zX a).natAbs, (zX b).natAbs⟩, ⟨rfl, by simp only; omega, by simp only; omega⟩, zT _, fun h => h, rfl, fun _ _ _ _ => rfl⟩, fun z ⟨z1, z2, z3⟩ => ⟨fun hy => ?_, fun hy => ?_⟩⟩
  ·have hy0 : z.y ≠ 0 := fun e => by rw [e, Z0] at hy; exact absurd hy (by decide)
   have hm : z.x % z.y < z.y := Nat.mod_lt _ (by omega)
   have hlen := yz (b := 1000000000) (m := z.x % z.y) (n := z.y) (by omega) (by omega)
   exact ⟨(Zf _).1, (Zf _).1, (Zf _).2, (Zf _).2, by omega, z2, z3, ⟨z.y, z.x % z.y⟩, ⟨⟨by rw [← uG hy0]; exact z1, z3, by simp only; omega⟩, hm⟩, zT _, fun h => h, rfl, fun _ _ _ _ => rfl⟩
  ·have hy0 := X0 (b := 1000000000) (n := z.y) (by omega) (by omega)
   rw [hy0, Nat.gcd_zero_right] at z1
   rw [Wu, cond_false, z1]
   rw [z1] at z2
   obtain ⟨r1, r2⟩ := Zo (n := (yk a b : Int)) (k := 300) (by omega) (by omega) (by rw [Int.natAbs_natCast]; exact gl3)
   rw [r1, r2]
   exact ⟨(Zf _).1, (Zf _).2, z2, rfl, rfl, rfl⟩
theorem J6 {G : List (Nat × Obj)} (hG : zN G) (a : List UInt8) (b : List UInt8) (hla : a.length ≤ 4294967280) (hlb : b.length ≤ 4294967280) : zU Tryz.prog G 96 [.str a, .str b] (.tup 2 (zw [.str (bif zB a b != 0 then [] else Lib.itoa (yk a b : Int)), .i (zB a b)])) :=
 zW (T := iW G) (an := M4 a b) mixed (XY hG) (Eq.mp (by kernel_rfl) (kf G a b hla hlb))
theorem NA {G : List (Nat × Obj)} (hG : zN G) : zO Tryz.prog G 96 TA := by
 intro xs ps r h hp
 unfold TA at h
 split at h
 ·skip
  rename_i a b
  cases h
  obtain ⟨q0, q1, -⟩ := ZH hp
  exact weaken (ys := [.str a, .str b]) ⟨zT _, zT _, trivial⟩ (J6 hG a b q0 q1)
 ·cases h
end Go.Te

namespace Go.Te
open Go Go.Sx Go.Proofs Go.Ar
set_option maxRecDepth 100000
set_option maxHeartbeats 4000000
def yy (a : zI) : zI := bif zh a then z6 a else [49]
theorem YS (n : Int) : ZR (Lib.itoa n) = ZM n := by
 obtain ⟨h1, h2⟩ := za n
 have h3 := wP h1
 rw [h2] at h3
 unfold ZR ZM
 rw [h1, h3]
 rfl
theorem ML {a : zI} (h : zG a = 0) : ZR (zL a) = 0 ∧ ZR (yy a) = 0 ∧ zX (zL a) = zj a ∧ zX (yy a) = (zn a : Int) := by
 obtain ⟨h1, h2, h3, _⟩ := Zr.1 h
 have hi : Zx (zL a) = true := by
  unfold ZN at h1
  rw [Bool.and_eq_true] at h1
  exact h1.1
 refine ⟨yS.2 ⟨hi, h2⟩, ?_, rfl, ?_⟩
 all_goals
  unfold yy
  cases hs : zh a with
  | false =>
   first
    | (show ZR [49] = 0; exact yS.2 (by decide))
    | (unfold zn; rw [hs]; show zX [49] = ((1 : Nat) : Int); decide)
  | true =>
   unfold ZN at h1
   rw [hs] at h1
   have hd : Z4 (z6 a) = true := by
    revert h1
    cases Z4 (z6 a) <;> simp
   obtain ⟨i1, i2⟩ := Wx hd
   first
    | exact yS.2 ⟨i1, Nat.le_trans (wN _).1 h3⟩
    | (unfold zn; rw [hs]; exact i2)
theorem jK (s : zI) : s.length ≤ (zR s).length + 1 := by
 unfold zR
 cases zJ s with
 | true => rw [cond_true, List.length_drop]; omega
 | false => rw [cond_false]; omega
theorem sH (g : Nat) : (Lib.itoa (g : Int) == [49]) = Nat.beq g 1 := by
 rw [Go.Ar.Z6, Bool.eq_iff_iff, beq_iff_eq, Nat.beq_eq]
 constructor
 ·intro h
  have := congrArg zc h
  rw [Z7] at this
  exact this
 ·intro h
  rw [h, Zz (by decide)]; rfl
theorem gu {a b : zI} (ha : zG a = 0) (hb : zG b = 0) : YB (fun x1 x2 => x1 * x2) (zL a) (yy b) = ZM (zj a * (zn b : Int)) ∧ y8 (fun x1 x2 => x1 * x2) (zL a) (yy b) = Yi (zj a * (zn b : Int)) := by
 obtain ⟨a1, a2, a3, a4⟩ := ML ha
 obtain ⟨b1, b2, b3, b4⟩ := ML hb
 have hE : zB (zL a) (yy b) = 0 := by unfold zB; rw [a1, b2]; rfl
 obtain ⟨e1, e2⟩ := VE (f := fun x1 x2 => x1 * x2) hE
 rw [a3, b4] at e1 e2
 exact ⟨e2, e1⟩
theorem La {n m : Int} (hn : ZM n = 0) (hm : ZM m = 0) : y5 (Yi n) (Yi m) = xL n m ∧ zB (Yi n) (Yi m) = 0 ∧ (Yi n).length ≤ 4294967280 ∧ (Yi m).length ≤ 4294967280 := by
 have e : ∀ k, ZM k = 0 → Yi k = Lib.itoa k := fun k h => by unfold Yi; rw [h]; rfl
 have l : ∀ k, ZM k = 0 → (Lib.itoa k).length ≤ 4294967280 := fun k h => by
  rw [XX]
  have : ¬ 300 < xa k := fun e => by unfold ZM at h; rw [(Zw _ _).2 e] at h; cases h
  split <;> omega
 rw [e n hn, e m hm]
 have hE : zB (Lib.itoa n) (Lib.itoa m) = 0 := by
  unfold zB
  rw [YS, hn, YS, hm]
  rfl
 refine ⟨?_, hE, l n hn, l m hm⟩
 unfold y5
 rw [hE, (za n).2, (za m).2]
 rfl
theorem yE {a : zI} (h : Zy a = true) : zG a = 0 ∧ (zj a).natAbs ≤ 99999999 ∧ zn a ≤ 99999999 := by
 obtain ⟨h1, h2, h3, h4⟩ := XE.1 h
 obtain ⟨g1, g2, g3⟩ := xH.1 h1
 have hr : zG a = 0 := by
  unfold Zy at h
  rw [Bool.and_eq_true, Bool.and_eq_true, beq_iff_eq] at h
  exact h.1.1
 have b := vX g1 (k := 8) h2
 rw [show 10 ^ 8 = 100000000 from by decide] at b
 refine ⟨hr, by rw [US]; omega, ?_⟩
 rw [(Sv (a := a)).2]
 cases hs : zh (zR a) with
 | false => show 1 ≤ 99999999; decide
 | true =>
  have b := vX (g3 hs).1 (k := 8) h3
  rw [show 10 ^ 8 = 100000000 from by decide] at b
  simp only [cond_true]
  omega
noncomputable def gX (G : List (Nat × Obj)) : Tb := ((((WA G).plus 94 qo).plus 55 VW).plus 95 (Yj fun s => .str (zR s))).plus 96 TA
theorem oF {G : List (Nat × Obj)} (hG : zN G) : zz Tryz.prog (gX G) := zz.plus (zz.plus (zz.plus (zz.plus zo (zO.mono iq)) (zO.mono sx)) (zO.mono vf)) (NA hG)
def wv : List AV → Option (List zk × AV)
 | [.str a] => some ([.p (a.length ≤ 9223372036854775807)], .tup 2 (zw [.agg 2 (zw [.str (bif zG a == 0 then zL a else []), .str (bif zG a == 0 then yy a else [])]), .i (zG a)]))
 | _ => none
theorem mI (G : List (Nat × Obj)) (a : List UInt8) (hl : a.length ≤ 9223372036854775807) :
 let q2 := (True ∧ 2 = 2 ∧ (bA #[] = bif zG a == iZ then zL a else []) ∧ bA #[] = bif zG a == iZ then yy a else []); let q1 := (j2 ∧ q2 ∧ kI ∧ (11 : Int) = zG a); let q4 := (bif ZN a then bif zh a then z6 a else [(49 : UInt8)] else []); let q3 := (j2 ∧ (True ∧ 2 = 2 ∧ ((bif ZN a then zL a else []) = bif zG a == iZ then zL a else []) ∧ q4 = bif zG a == iZ then yy a else []) ∧
 kI ∧ iZ = zG a); let q7 := (lZ (zR (bif ZN a then zL a else []))); let q6 := (zF (300 : Int) q7); let q5 := (!zr false q6 || zr false q6); let q8 := (ByteArray.data (ByteArray.mk #[(49 : UInt8)])); let q9 := (zB (bif ZN a then zL a else []) q4 != iZ); Zv [AV.str a] → lN a ≤ nX ∧ zZ (!ZN a) q1 (lN a ≤ nX ∧ zZ (Zy a) q3 (bF q5 (bF q5 (bF q5 (bF (!!zF (300 : Int) q7 || zr false q6) (zZ (bif zF (300 : Int) q7 then true else zF (300 : Int)
 (lZ q4)) (j2 ∧ q2 ∧ kI ∧ (4 : Int) = zG a) (zZ (q4 == Array.toList q8) q3 (lN (bif ZN a then zL a else []) ≤ nM ∧ lN q4 ≤ nM ∧ bF (!zr false q9 || zr false q9) (bF (!!zB (bif ZN a then zL a else []) q4 != iZ || zr false q9) (zZ (bif zB (bif ZN a then zL a else []) q4 != iZ then true else !(bif zB (bif ZN a then zL a else []) q4 != iZ then [] else Lib.itoa (cI (yk (bif ZN a then zL a else []) q4))) == Array.toList
 q8) q1 q3)))))))))) := by
 delta bF bA nX nM cI kI j2 lZ lN iZ
 dsimp only
 intro hb
 simp only [sS, dS, xN]
 have hFO := Xa a
 have hden : (bif zh a then z6 a else [49]) = yy a := rfl
 obtain ⟨o1, o2, o3, o4, o5, o6, o7⟩ := Yd a
 refine ⟨hl, zY.2 ⟨fun c => ?_, fun c => ?_⟩⟩
 ·have c : ZN a = false := by simpa using c
  rw [c] at hFO
  rw [Rm hFO.symm]
  exact ⟨rfl, ⟨rfl, rfl⟩, rfl⟩
 have c : ZN a = true := by simpa using c
 have hFO' : WU a = true := hFO.symm.trans c
 simp only [c, cond_true, hden]
 have fin : zG a = 0 → 2 = [AV.junk, AV.junk].length ∧ ((zL a = bif zG a == 0 then zL a else []) ∧ yy a = bif zG a == 0 then yy a else []) ∧ 0 = zG a := fun h => by rw [h]; exact ⟨rfl, ⟨rfl, rfl⟩, rfl⟩
 have bad : ∀ e : Int, e ≠ 0 → zG a = e → 2 = [AV.junk, AV.junk].length ∧ (([] = bif zG a == 0 then zL a else []) ∧ [] = bif zG a == 0 then yy a else []) ∧ e = zG a := fun e h0 h => by
  rw [h, beq_eq_false_iff_ne.2 h0]; exact ⟨rfl, ⟨rfl, rfl⟩, rfl⟩
 have hlen : (zR (zL a)).length = (zL (zR a)).length := by rw [← (sJ (zL a)).2, o5]
 have hcd := vH a
 have hdd := RZ a
 refine ⟨hl, zY.2 ⟨fun k => fin (yE k).1, fun k => zY.2 ⟨fun k2 => bad 4 (by decide) (Ov hFO' ?_), fun k2 => zY.2 ⟨fun k3 => ?_, fun k3 => ?_⟩⟩⟩⟩
 ·rw [Bool.or_eq_true, zp, zp, hlen] at k2
  rcases k2 with k2 | k2
  ·exact .inl (by omega)
  ·refine .inr ?_
   rw [← o2]
   unfold yy at k2
   cases hs : zh a with
   | true => rw [hs, cond_true] at k2; omega
   | false => rw [hs, cond_false] at k2; exact absurd k2 (by decide)
 ·have hs : zh a = false := by
   cases hs : zh a with
   | false => rfl
   | true =>
    unfold yy at k3
    rw [hs, cond_true] at k3
    have := (xH.1 hFO').2.2 (by rw [← o3]; exact hs)
    rw [← o2] at this
    exact absurd (eq_of_beq k3) this.2.2
  rw [Bool.or_eq_false_iff, Bool.eq_false_iff, Ne, zp, hlen] at k2
  exact fin (rB hFO' (by omega) (by rw [← o3]; exact hs))
 ·have hs : zh a = true := by
   cases hs : zh a with
   | true => rfl
   | false => unfold yy at k3; rw [hs] at k3; cases k3
  have hdS : yy a = z6 a := by unfold yy; rw [hs]; rfl
  rw [hdS] at k2 bad fin ⊢
  rw [Bool.or_eq_false_iff, Bool.eq_false_iff, Bool.eq_false_iff, Ne, Ne, zp, zp, hlen] at k2
  have e2 := UC hFO' ⟨by omega, by rw [← o2]; omega⟩ (by rw [← o3]; exact hs)
  have g := (xH.1 hFO').2.2 (by rw [← o3]; exact hs)
  rw [← o2] at g e2
  obtain ⟨i1, i2⟩ := Wx g.1
  have hi : Zx (zL a) = true := by
   have := c
   unfold ZN at this
   rw [Bool.and_eq_true] at this
   exact this.1
  have hE : zB (zL a) (z6 a) = 0 := by
   have l2 := (wN (z6 a)).1
   have q1 : ZR (zL a) = 0 := yS.2 ⟨hi, by rw [o5]; omega⟩
   have q2 : ZR (z6 a) = 0 := yS.2 ⟨i1, by omega⟩
   unfold zB
   rw [q1, q2]; rfl
  have hg : yk (zL a) (z6 a) = Nat.gcd (zc (zL (zR a))) (zc (z6 a)) := by
   unfold yk
   rw [i2, Int.natAbs_natCast, ← US]
   rfl
  have hge := jK (zL a)
  rw [hE]
  simp only [bne_self_eq_false, cond_false, Bool.false_or, sH, hg]
  refine ⟨by omega, by omega, zY.2 ⟨fun k4 => bad 11 (by decide) ?_, fun k4 => ?_⟩⟩
  ·rw [e2, show Nat.beq (Nat.gcd (zc (zL (zR a))) (zc (z6 a))) 1 = false by rw [Bool.not_eq_true'] at k4; exact k4]; rfl
  ·exact fin (by rw [e2, show Nat.beq (Nat.gcd (zc (zL (zR a))) (zc (z6 a))) 1 = true by rw [Bool.not_eq_false'] at k4; exact k4]; rfl)
theorem kX {G : List (Nat × Obj)} (hG : zN G) (a : List UInt8) (hl : a.length ≤ 9223372036854775807) : zU Tryz.prog G 57 [.str a] (.tup 2 (zw [.agg 2 (zw [.str (bif zG a == 0 then zL a else []), .str (bif zG a == 0 then yy a else [])]), .i (zG a)])) :=
 zW (T := gX G) (an := .auto) mixed (oF hG) (Eq.mp (by kernel_rfl) (mI G a hl))
theorem vL {G : List (Nat × Obj)} (hG : zN G) : zO Tryz.prog G 57 wv := by
 intro xs ps r h hp
 unfold wv at h
 split at h
 ·skip
  rename_i a
  cases h
  obtain ⟨q0, -⟩ := ZH hp
  exact weaken (ys := [.str a]) ⟨zT _, trivial⟩ (kX hG a q0)
 ·cases h
theorem lH (G : List (Nat × Obj)) (a : List UInt8) (hl : a.length ≤ 9223372036854775807) :
 Zv [AV.str a] → lN a ≤ nX ∧ kI ∧ zG a = zG a := by
 delta nX kI lN
 intro hb
 simp only [sS, dS, xN]
 exact hl
theorem jD {G : List (Nat × Obj)} (hG : zN G) (a : List UInt8) (hl : a.length ≤ 9223372036854775807) : zU Tryz.prog G 43 [.str a] (.i (zG a)) :=
 zW (T := (WA G).plus 57 wv) (an := .auto) mixed (zz.plus zo (vL hG)) (Eq.mp (by kernel_rfl) (lH G a hl))
def Vy (a b : zI) : Int := bif zG a != 0 then zG a else bif zG b != 0 then zG b else bif ZM (zj a * (zn b : Int)) != 0 then ZM (zj a * (zn b : Int)) else ZM (zj b * (zn a : Int))
def Rc (a b : zI) : Int := bif Vy a b == 0 then xL (zj a * (zn b : Int)) (zj b * (zn a : Int)) else 0
noncomputable def Hz (G : List (Nat × Obj)) : Tb := (((((WA G).plus 57 wv).plus 55 VW).plus 78 vW).plus 59 sE).plus 56 uk
theorem qN {G : List (Nat × Obj)} (hG : zN G) : zz Tryz.prog (Hz G) := zz.plus (zz.plus (zz.plus (zz.plus (zz.plus zo (vL hG)) (zO.mono sx)) (U2 hG)) (Mm hG)) (zO.mono qB)
noncomputable def gm (G : List (Nat × Obj)) : Tb := (Hz G).body Tryz.prog [(58, .auto)]
theorem oD {G : List (Nat × Obj)} (hG : zN G) : zz Tryz.prog (gm G) := zz.body mixed (qN hG) _
theorem kB (G : List (Nat × Obj)) (a : List UInt8) (b : List UInt8) (hla : a.length ≤ 9223372036854775807) (hlb : b.length ≤ 9223372036854775807) :
 let q1 := ((bif Zy a then zj a else iZ) * bif Zy b then (cI (zn b)) else iZ); let q2 := ((bif Zy b then zj b else iZ) * bif Zy a then (cI (zn a)) else iZ); let q4 := (True ∧ kI ∧ iZ = Rc a b); let q5 := (bif zG a == iZ then zL a else []); let q6 := (bif zG b == iZ then yy b else []); let q7 := (YB (fun (x1 x2 : Int) => x1 * x2) q5 q6 != iZ); let q8 := (bA #[]); let q9 := (bif zG b == iZ then zL b else []); let q10 := (bif zG a == (0 :
 Int) then yy a else []); let q11 := (y8 (fun (x1 x2 : Int) => x1 * x2) q5 q6); let q12 := (y8 (fun (x1 x2 : Int) => x1 * x2) q9 q10); let q3 := (lN a ≤ nX ∧ zZ (zG a != iZ) (j2 ∧ q4 ∧ kI ∧ zG a = Vy a b) (lN b ≤ nX ∧ zZ (zG b != iZ) (j2 ∧ q4 ∧ kI ∧ zG b = Vy a b) (lN q5 ≤ nM ∧ lN q6 ≤ nM ∧ zZ q7 (zZ q7 (j2 ∧ q4 ∧ kI ∧ YB
 (fun (x1 x2 : Int) => x1 * x2) q5 q6 = Vy a b) (0 ≤ nM ∧ 0 ≤ nM ∧ j2 ∧ (True ∧ kI ∧ y5 q8 q8 = Rc a b) ∧ kI ∧ zB q8 q8 = Vy a b)) (lN q9 ≤ nM ∧ lN q10 ≤ nM ∧ zZ (YB (fun (x1 x2 : Int) => x1 * x2) q9 q10 != iZ) (j2 ∧ q4 ∧ kI ∧ YB (fun (x1 x2 : Int) => x1 * x2) q9 q10 = Vy a b) (lN q11 ≤ nM ∧ lN q12 ≤ nM ∧ j2 ∧ (True ∧ kI ∧ y5 q11
 q12 = Rc a b) ∧ kI ∧ zB q11 q12 = Vy a b))))); Zv [AV.str a, AV.str b] → lN a ≤ nX ∧ zZ (Zy a) (lN b ≤ nX ∧ zZ (Zy b) (bF (dK q1) (bF (dK q2) (j2 ∧ (True ∧ kI ∧ xL q1 q2 = Rc a b) ∧ kI ∧ iZ = Vy a b))) q3) q3 := by
 delta bF dK bA nX nM cI kI j2 lN iZ
 dsimp only
 intro hb
 simp only [sS, dS, xN]
 have ncd := vH a
 have ncb := vH b
 have dl : ∀ a : zI, zG a = 0 → (yy a).length ≤ 301 := fun a h => by have := (Zr.1 h).2.2.1; unfold yy; cases zh a <;> simp <;> omega
 have eA : zG a ≠ 0 → 0 = Rc a b ∧ zG a = Vy a b := fun h => by
  have e : Vy a b = zG a := by unfold Vy; rw [bne_iff_ne.2 h]; rfl
  unfold Rc
  rw [e, beq_eq_false_iff_ne.2 h]
  exact ⟨rfl, rfl⟩
 have eB : zG a = 0 → zG b ≠ 0 → 0 = Rc a b ∧ zG b = Vy a b := fun h0 h => by
  have e : Vy a b = zG b := by unfold Vy; rw [h0, bne_iff_ne.2 h]; rfl
  unfold Rc
  rw [e, beq_eq_false_iff_ne.2 h]
  exact ⟨rfl, rfl⟩
 have eC : zG a = 0 → zG b = 0 → ZM (zj a * (zn b : Int)) ≠ 0 → 0 = Rc a b ∧ ZM (zj a * (zn b : Int)) = Vy a b := fun h0 h1 h => by
  have e : Vy a b = ZM (zj a * (zn b : Int)) := by unfold Vy; rw [h0, h1, bne_iff_ne.2 h]; rfl
  unfold Rc
  rw [e, beq_eq_false_iff_ne.2 h]
  exact ⟨rfl, rfl⟩
 have eD : zG a = 0 → zG b = 0 → ZM (zj a * (zn b : Int)) = 0 → Vy a b = ZM (zj b * (zn a : Int)) := fun h0 h1 h => by
  unfold Vy; rw [h0, h1, h]; rfl
 have big : zG a = 0 → zG b = 0 → _ := fun h0 h1 => And.intro (gu h0 h1) (gu h1 h0)
 refine ⟨hla, zY.2 ⟨fun c => ⟨hlb, zY.2 ⟨fun c2 => ?_, fun c2 => ?_⟩⟩, fun c => ?_⟩⟩
 ·obtain ⟨a1, a2, a3⟩ := yE c
  obtain ⟨b1, b2, b3⟩ := yE c2
  rw [c, c2]
  simp only [cond_true]
  have m1 : (zj a * (zn b : Int)).natAbs ≤ 99999999 * 99999999 := by rw [Int.natAbs_mul, Int.natAbs_natCast]; exact Nat.mul_le_mul a2 b3
  have m2 : (zj b * (zn a : Int)).natAbs ≤ 99999999 * 99999999 := by rw [Int.natAbs_mul, Int.natAbs_natCast]; exact Nat.mul_le_mul b2 a3
  obtain ⟨r1, r2⟩ := Zo (n := zj a * (zn b : Int)) (k := 20) (by omega) (by omega) (by omega)
  obtain ⟨r3, r4⟩ := Zo (n := zj b * (zn a : Int)) (k := 20) (by omega) (by omega) (by omega)
  have e := eD a1 b1 r2
  rw [r4] at e
  unfold Rc
  rw [e]
  exact ⟨⟨by omega, by omega⟩, ⟨by omega, by omega⟩, rfl, rfl, rfl⟩
 all_goals
  refine ⟨hla, fun h => ⟨rfl, eA h⟩, fun h0 => ⟨hlb, fun h => ⟨rfl, eB h0 h⟩, fun h1 => ?_⟩⟩
  obtain ⟨⟨p1, p2⟩, p3, p4⟩ := big h0 h1
  have dla := dl a h0
  have dlb := dl b h1
  have nla := (Zr.1 h0).2.1
  have nlb := (Zr.1 h1).2.1
  have ll1 := (wN (zL a)).2
  have ll2 := (wN (zL b)).2
  rw [h0, h1]
  simp only [beq_self_eq_true, cond_true, p1, p2, p3, p4]
  refine ⟨by omega, by omega, fun h => ⟨fun _ => ⟨rfl, eC h0 h1 h⟩, fun h2 => absurd h2 h⟩, fun h => ⟨by omega, by omega, fun h2 => ?_, fun h2 => ?_⟩⟩
  ·have e := eD h0 h1 h
   unfold Rc
   rw [e, beq_eq_false_iff_ne.2 h2]
   exact ⟨rfl, rfl, rfl⟩
  ·have e := eD h0 h1 h
   rw [h2] at e
   obtain ⟨q1, q2, q3, q4⟩ := La h h2
   unfold Rc
   rw [e, q1, q2]
   exact ⟨q3, q4, rfl, rfl, rfl⟩
theorem K3 {G : List (Nat × Obj)} (hG : zN G) (a : List UInt8) (b : List UInt8) (hla : a.length ≤ 9223372036854775807) (hlb : b.length ≤ 9223372036854775807) : zU Tryz.prog G 29 [.str a, .str b] (.tup 2 (zw [.i (Rc a b), .i (Vy a b)])) :=
 zW (T := gm G) (an := .auto) mixed (oD hG) (Eq.mp (by kernel_rfl) (kB G a b hla hlb))
end Go.Te

namespace Go.Te
open Go Go.Sx Go.Proofs Go.Ar
set_option maxRecDepth 100000
set_option maxHeartbeats 4000000
structure Nt where
 n : Int
 d : Int
instance : zS Nt := ⟨2, ⟨0, 0⟩, fun c => zw [.i c.n, .i c.d], fun cs => ⟨AV.int (cs 0), AV.int (cs 1)⟩, fun cs => YA (cs 0) && YA (cs 1), fun cs h j hj => by
 simp only [Bool.and_eq_true] at h
 match j, hj with
 | 0, _ => exact ZT (UI h.1)
 | 1, _ => exact ZT (UI h.2)⟩
instance : yc Nt := ⟨fun _ => rfl, fun _ => rfl⟩
def xt (n d : Int) : zI := bif zF d 0 then ZW (-n) (-d).toNat else ZW n d.toNat
theorem Nn (n : Int) {d : Int} (hd : 0 < d) : Wz (if -n > n then -n else n) d = (Nat.gcd n.natAbs d.toNat : Int) := by
 have e : (if -n > n then -n else n) = (n.natAbs : Int) := by split <;> omega
 unfold Wz
 rw [e, (ZX _ _).2 (show (0 : Int) ≤ (n.natAbs : Int) by omega), (ZX _ _).2 (show 0 ≤ d by omega), Int.toNat_natCast]
 rfl
theorem pG (n : Int) {d : Int} (hd : 0 < d) : (0 : Int) < (Nat.gcd n.natAbs d.toNat : Int) ∧ n.tdiv (Nat.gcd n.natAbs d.toNat : Int) = n / (Nat.gcd n.natAbs d.toNat : Int) ∧ d.tdiv (Nat.gcd n.natAbs d.toNat : Int) = ((d.toNat / Nat.gcd n.natAbs d.toNat : Nat) : Int) ∧ (n / (Nat.gcd n.natAbs d.toNat : Int)).natAbs ≤ n.natAbs ∧ 0 < d.toNat / Nat.gcd n.natAbs d.toNat ∧ d.toNat / Nat.gcd n.natAbs d.toNat ≤ d.toNat := by
 have hg : 0 < Nat.gcd n.natAbs d.toNat := Nat.gcd_pos_of_pos_right _ (by omega)
 have hdv := Nat.gcd_dvd_right n.natAbs d.toNat
 have hnv : ((Nat.gcd n.natAbs d.toNat : Nat) : Int) ∣ n := Int.ofNat_dvd_left.2 (Nat.gcd_dvd_left _ _)
 generalize Nat.gcd n.natAbs d.toNat = g at *
 have e1 : n.tdiv (g : Int) = n / (g : Int) := Int.tdiv_eq_ediv_of_dvd hnv
 refine ⟨by omega, e1, ?_, ?_, Nat.div_pos (Nat.le_of_dvd (by omega) hdv) hg, Nat.div_le_self _ _⟩
 ·rw [Int.tdiv_eq_ediv_of_nonneg (by omega), Int.natCast_ediv]
  congr 1
  omega
 ·rw [← e1]; exact Int.natAbs_tdiv_le_natAbs n g
theorem Rl (n : Int) (d : Nat) : (d / Nat.gcd n.natAbs d = 1 → Lib.itoa (n / (Nat.gcd n.natAbs d : Int)) = ZW n d) ∧ (d / Nat.gcd n.natAbs d ≠ 1 → Lib.itoa (n / (Nat.gcd n.natAbs d : Int)) ++ [47] ++ Lib.itoa ((d / Nat.gcd n.natAbs d : Nat) : Int) = ZW n d) := by
 unfold ZW YL
 refine ⟨fun h => ?_, fun h => ?_⟩
 ·rw [h]
  exact (List.append_nil _).symm
 ·rw [show Nat.beq (d / Nat.gcd n.natAbs d) 1 = false from Bool.eq_false_iff.2 fun e => h (Nat.eq_of_beq_eq_true e), Go.Ar.Z6]
  simp
theorem PS {n : Int} (h : n.natAbs < 10 ^ 20) : (Lib.itoa n).length ≤ 21 := by
 rw [XX]
 have : xa n ≤ 20 := Ya (by omega) h
 split <;> omega
def Si : List AV → Option (List zk × AV)
 | [.agg 2 p_x] => some ([.b (YA (p_x 0) && YA (p_x 1)), .p ((⟨AV.int (p_x 0), AV.int (p_x 1)⟩ : Nt).d ≠ 0), .p (-1000000000000000000 ≤ (⟨AV.int (p_x 0), AV.int (p_x 1)⟩ : Nt).d ∧ (⟨AV.int (p_x 0), AV.int (p_x 1)⟩ : Nt).d ≤ 1000000000000000000), .p (-1000000000000000000 ≤ (⟨AV.int (p_x 0), AV.int (p_x 1)⟩ : Nt).n ∧ (⟨AV.int (p_x 0), AV.int (p_x 1)⟩ : Nt).n ≤ 1000000000000000000)], .str (xt (⟨AV.int (p_x 0), AV.int (p_x 1)⟩ : Nt).n (⟨AV.int (p_x 0), AV.int (p_x 1)⟩ : Nt).d))
 | _ => none
theorem MD (G : List (Nat × Obj)) (x : Nt) (h0 : x.d ≠ 0) (h1 : -1000000000000000000 ≤ x.d ∧ x.d ≤ 1000000000000000000) (h2 : -1000000000000000000 ≤ x.n ∧ x.n ≤ 1000000000000000000) :
 let q1 := (if - -Nt.n x > -Nt.n x then - -Nt.n x else -Nt.n x); let q2 := (DB.db (Wz q1 (-Nt.d x) ≠ iZ)); let q4 := (Wz q1 (-Nt.d x)); let q3 := (Int.tdiv (-Nt.n x) q4); let q5 := (Int.tdiv (-Nt.d x) q4); let q6 := (iN ≤ Int.tdiv (-Nt.n x) q4 ∧ Int.tdiv (-Nt.n x) q4 ≤ iX); let q7 := (ByteArray.data (ByteArray.mk #[(47 : UInt8)])); let q8 := (if -Nt.n x > Nt.n x then -Nt.n x else Nt.n x); let q9 := (DB.db (Wz q8 (Nt.d x) ≠ iZ)); let q11 := (Wz q8 (Nt.d x)); let q10 := (Int.tdiv (Nt.n x) q11); let q12 := (Int.tdiv (Nt.d x)
 q11); let q13 := (iN ≤ Int.tdiv (Nt.n x) q11 ∧ Int.tdiv (Nt.n x) q11 ≤ iX); Zv [AV.agg 2 (zS.enc x)] → zZ (zF (Nt.d x) iZ) (bF (dK (-Nt.n x)) (bF (dK (-Nt.d x)) (bF (dK (- -Nt.n x)) (((iZ ≤ if - -Nt.n x > -Nt.n x then - -Nt.n x else -Nt.n x) ∧ q1 ≤ iX) ∧ (iZ ≤ -Nt.d x ∧ -Nt.d x ≤ iX) ∧ bF q2 (bF (dK q3) (bF q2 (bF (dK q5) (zZ (Int.tdiv (-Nt.d x) q4 == iO) (q6
 ∧ Lib.itoa q3 = xt (Nt.n x) (Nt.d x)) (q6 ∧ bF (DB.db (lN (Lib.itoa q3) + 1 ≤ nX)) ((iN ≤ Int.tdiv (-Nt.d x) q4 ∧ Int.tdiv (-Nt.d x) q4 ≤ iX) ∧ bF (DB.db (lN (Lib.itoa q3 ++ Array.toList q7) + lN (Lib.itoa q5) ≤ nX)) (Lib.itoa q3 ++ Array.toList q7 ++ Lib.itoa q5 = xt (Nt.n x) (Nt.d x)))))))))))) (bF (dK (-Nt.n x)) (((iZ ≤ if -Nt.n x > Nt.n x then -Nt.n x else Nt.n x) ∧ q8 ≤ (9223372036854775807 :
 Int)) ∧ (iZ ≤ Nt.d x ∧ Nt.d x ≤ iX) ∧ bF q9 (bF (dK q10) (bF q9 (bF (dK q12) (zZ (Int.tdiv (Nt.d x) q11 == iO) (q13 ∧ Lib.itoa q10 = xt (Nt.n x) (Nt.d x)) (q13 ∧ bF (DB.db (lN (Lib.itoa q10) + 1 ≤ nX)) ((iN ≤ Int.tdiv (Nt.d x) q11 ∧ Int.tdiv (Nt.d x) q11 ≤ iX) ∧ bF (DB.db (lN (Lib.itoa q10 ++ Array.toList q7) + lN (Lib.itoa q12) ≤ nX)) (Lib.itoa q10 ++ Array.toList q7 ++ Lib.itoa q12 = xt
 (Nt.n x) (Nt.d x)))))))))) := by
 delta bF dK nX lN iZ iO iX iN
 dsimp only
 intro hb
 simp only [sS, dS]
 have key : ∀ n d : Int, 0 < d → d ≤ 1000000000000000000 → -1000000000000000000 ≤ n ∧ n ≤ 1000000000000000000 → _ := fun n d hd hd1 hn => And.intro (Nn n hd) (And.intro (pG n hd) (Rl n d.toNat))
 refine ⟨fun hd => ?_, fun hd => ?_⟩
 ·obtain ⟨k1, ⟨k2, k3, k4, k5, k6, k7⟩, k8, k9⟩ := key (-x.n) (-x.d) (by omega) (by omega) ⟨by omega, by omega⟩
  have hs : xt x.n x.d = ZW (-x.n) (-x.d).toNat := by unfold xt; rw [(zp _ _).2 hd]; rfl
  rw [k1, k3, k4, hs]
  generalize ZW (-x.n) (-x.d).toNat = R at *
  generalize Nat.gcd (-x.n).natAbs (-x.d).toNat = g at *
  generalize (-x.n) / (g : Int) = q at *
  generalize (-x.d).toNat / g = e at *
  have l1 := PS (n := q) (by omega)
  have l2 := PS (n := (e : Int)) (by omega)
  refine ⟨⟨by omega, by omega⟩, ⟨by omega, by omega⟩, ⟨by omega, by omega⟩, ⟨by split <;> omega, by split <;> omega⟩, ⟨by omega, by omega⟩, by omega, ⟨by omega, by omega⟩, by omega, ⟨by omega, by omega⟩, fun h => ⟨⟨by omega, by omega⟩, k8 (by omega)⟩, fun h => ⟨⟨by omega, by omega⟩, by omega, ⟨by omega, by omega⟩, by rw [List.length_append, List.length_singleton]; omega, k9 (by omega)⟩⟩
 ·obtain ⟨k1, ⟨k2, k3, k4, k5, k6, k7⟩, k8, k9⟩ := key x.n x.d (by omega) (by omega) h2
  have hs : xt x.n x.d = ZW x.n x.d.toNat := by unfold xt; rw [show zF x.d 0 = false from Bool.eq_false_iff.2 fun e => by have := (zp _ _).1 e; omega]; rfl
  rw [k1, k3, k4, hs]
  generalize ZW x.n x.d.toNat = R at *
  generalize Nat.gcd x.n.natAbs x.d.toNat = g at *
  generalize x.n / (g : Int) = q at *
  generalize hD : x.d.toNat / g = e at *
  have l1 := PS (n := q) (by omega)
  have l2 := PS (n := (e : Int)) (by omega)
  refine ⟨⟨by omega, by omega⟩, ⟨by split <;> omega, by split <;> omega⟩, ⟨by omega, by omega⟩, by omega, ⟨by omega, by omega⟩, by omega, ⟨by omega, by omega⟩, fun h => ⟨⟨by omega, by omega⟩, k8 (by omega)⟩, fun h => ⟨⟨by omega, by omega⟩, by omega, ⟨by omega, by omega⟩, by rw [List.length_append, List.length_singleton]; omega, k9 (by omega)⟩⟩
theorem JI {G : List (Nat × Obj)} (hG : zN G) (x : Nt) (h0 : x.d ≠ 0) (h1 : -1000000000000000000 ≤ x.d ∧ x.d ≤ 1000000000000000000) (h2 : -1000000000000000000 ≤ x.n ∧ x.n ≤ 1000000000000000000) : zU Tryz.prog G 101 [xR x] (.str (xt x.n x.d)) :=
 zW (T := (oQ G).plus 92 SY) (an := .auto) mixed (zz.plus (yO hG) (zO.mono OE)) (Eq.mp (by kernel_rfl) (MD G x h0 h1 h2))
theorem Mq {G : List (Nat × Obj)} (hG : zN G) : zO Tryz.prog G 101 Si := by
 intro xs ps r h hp
 unfold Si at h
 split at h
 ·skip
  rename_i p_x
  cases h
  obtain ⟨q0, q1, q2, q3, -⟩ := ZH hp
  exact weaken (ys := [xR (⟨AV.int (p_x 0), AV.int (p_x 1)⟩ : Nt)]) ⟨Zt (x := .agg 2 p_x) (α := Nt) q0, trivial⟩ (JI hG (⟨AV.int (p_x 0), AV.int (p_x 1)⟩ : Nt) q1 q2 q3)
 ·cases h
def yH (s : zI) : zI := bif s == [48] then s else bif zJ s then zR s else 45 :: s
def Ql : List AV → Option (List zk × AV)
 | [.str s] => some ([.p (s.length ≤ 4294967280)], .str (yH s))
 | _ => none
theorem MC (s : List UInt8) (hl : s.length ≤ 4294967280) :
 Zv [AV.str s] → zZ (s == bA #[(48 : UInt8)]) (s = yH s) (zZ (zJ s) (zR s = yH s) (bF (DB.db (1 + lN s ≤ nX)) (bA #[(45 : UInt8)] ++ s = yH s))) := by
 delta bF bA nX lN
 intro hb
 simp only [sS, dS]
 unfold yH
 refine zY.2 ⟨fun c => by rw [c]; rfl, fun c => zY.2 ⟨fun c2 => by rw [c, c2]; rfl, fun c2 => ⟨by omega, by rw [c, c2]; rfl⟩⟩⟩
theorem ju (s : List UInt8) (hl : s.length ≤ 4294967280) : zU Tryz.prog [] 114 [.str s] (.str (yH s)) :=
 zW (T := T0.plus 140 (Yj fun s => .tup 2 (zw [.str (zR s), .b (zJ s)]))) (an := .auto) mixed (zz.plus zo R7) (Eq.mp (by kernel_rfl) (MC s hl))
theorem iM : zO Tryz.prog [] 114 Ql := by
 intro xs ps r h hp
 unfold Ql at h
 split at h
 ·skip
  rename_i s
  cases h
  obtain ⟨q0, -⟩ := ZH hp
  exact weaken (ys := [.str s]) ⟨zT _, trivial⟩ (ju s q0)
 ·cases h
theorem rT {s : zI} (h : ZR s = 0) : ZR (yH s) = 0 ∧ zX (yH s) = -zX s ∧ (yH s).length ≤ 302 := by
 obtain ⟨h1, h2⟩ := yS.1 h
 have e : yH s = Lib.itoa (-zX s) := by
  unfold yH
  by_cases h0 : s = [48]
  ·subst h0
   show [48] = Lib.itoa ((0 : Nat) : Int)
   rw [Go.Ar.Z6, Zz (by omega)]; rfl
  rw [beq_eq_false_iff_ne.2 h0, cond_false]
  rcases yG h1 with ⟨r, rfl, g1, g2, g3⟩ | ⟨g1, g3⟩
  ·rw [g3, Int.neg_neg, Go.Ar.Z6, ZG g1]
   rfl
  ·have hm : zJ s = false := by
    cases hm : zJ s with
    | false => rfl
    | true =>
     match s, hm, g1 with
     | c :: r, hm, g1 =>
      have hc : c = 45 := eq_of_beq hm
      subst hc
      exact (wZ g1).elim
   have hz : zc s ≠ 0 := fun hz => h0 (VP g1 hz)
   rw [hm, cond_false, g3, Go.Ar.itoa_neg hz, ZG g1]
 have hl := (wN (yH s)).2
 have hE : ZR (yH s) = 0 := by
  rw [e, YS]
  unfold ZM xa
  rw [Int.natAbs_neg]
  rw [wP h1] at h2
  unfold xa at h2
  rw [show Nat.blt 300 (Lib.nDigits (zX s).natAbs) = false from Bool.eq_false_iff.2 fun e => by have := (Zw _ _).1 e; omega]
  rfl
 exact ⟨hE, by rw [e, (za _).2], by have := (yS.1 hE).2; omega⟩
theorem mz {N : Int} {D : Nat} {n d : zI} (hn : n = Lib.itoa (N / (Nat.gcd N.natAbs D : Int))) (hd : d = Lib.itoa ((D / Nat.gcd N.natAbs D : Nat) : Int)) (ln : n.length ≤ 400) (ld : d.length ≤ 400) :
  zZ (d == [49]) (2 = [AV.junk, AV.junk].length ∧ n = ZW N D) (n.length + 1 ≤ 9223372036854775807 ∧ (n ++ [47]).length + d.length ≤ 9223372036854775807 ∧ 2 = [AV.junk, AV.junk].length ∧ n ++ [47] ++ d = ZW N D) := by
 obtain ⟨s1, s2⟩ := Rl N D
 have e := sH (D / Nat.gcd N.natAbs D)
 rw [← hd] at e
 refine zY.2 ⟨fun c => ⟨rfl, ?_⟩, fun c => ⟨by omega, by rw [List.length_append, List.length_singleton]; omega, rfl, ?_⟩⟩
 ·rw [c] at e
  rw [hn]; exact s1 (Nat.eq_of_beq_eq_true e.symm)
 ·rw [c] at e
  rw [hn, hd]; exact s2 fun h => by rw [h] at e; cases e
theorem iP {n d : zI} (hn : ZR n = 0) (hd : ZR d = 0) (hp : 0 < zX d) : zB n d = 0 ∧ (Lib.itoa (yk n d : Int)).length ≤ 400 ∧ n.length ≤ 400 ∧ d.length ≤ 400 ∧
  zZ (!Lib.itoa (yk n d : Int) == [49])
   (zZ (Yv d (Lib.itoa (yk n d : Int)) == [49]) (2 = [AV.junk, AV.junk].length ∧ Yv n (Lib.itoa (yk n d : Int)) = ZW (zX n) (zX d).toNat)
    (List.length (Yv n (Lib.itoa (yk n d : Int))) + 1 ≤ 9223372036854775807 ∧ List.length (Yv n (Lib.itoa (yk n d : Int)) ++ [47]) + List.length (Yv d (Lib.itoa (yk n d : Int))) ≤ 9223372036854775807 ∧
     2 = [AV.junk, AV.junk].length ∧ Yv n (Lib.itoa (yk n d : Int)) ++ [47] ++ Yv d (Lib.itoa (yk n d : Int)) = ZW (zX n) (zX d).toNat))
   (zZ (d == [49]) (2 = [AV.junk, AV.junk].length ∧ n = ZW (zX n) (zX d).toNat) (n.length + 1 ≤ 9223372036854775807 ∧ (n ++ [47]).length + d.length ≤ 9223372036854775807 ∧ 2 = [AV.junk, AV.junk].length ∧ n ++ [47] ++ d = ZW (zX n) (zX d).toNat)) := by
 have hb : zB n d = 0 := by unfold zB; rw [hn, hd]; rfl
 obtain ⟨n1, n2, n3⟩ := yt hn
 obtain ⟨d1, d2, d3⟩ := yt hd
 have n4 := TQ hn
 have d4 := TQ hd
 have eD : (zX d).natAbs = (zX d).toNat := by omega
 have hg : yk n d = Nat.gcd (zX n).natAbs (zX d).toNat := by unfold yk; rw [eD]
 obtain ⟨g1, g2, g3, g4, g5, g6⟩ := pG (zX n) hp
 rw [← hg] at g1 g2 g3 g4 g5 g6
 have gl : yk n d ≤ (zX d).natAbs := by rw [hg, eD]; exact Nat.le_of_dvd (by omega) (Nat.gcd_dvd_right _ _)
 have gi : ZR (Lib.itoa (yk n d : Int)) = 0 := by
  rw [YS]
  exact (Zo (n := (yk n d : Int)) (k := 300) (by omega) (by omega) (by rw [Int.natAbs_natCast]; omega)).2
 have lg := (yt gi).2.1
 have hz : (Lib.itoa (yk n d : Int) == [48]) = false := beq_eq_false_iff_ne.2 fun e => by
  have := (za (yk n d : Int)).2
  rw [e] at this
  have h0 : zX [48] = 0 := by decide
  rw [h0] at this
  omega
 have dv : ∀ x : zI, ZR x = 0 → Yv x (Lib.itoa (yk n d : Int)) = Lib.itoa (zX x / (yk n d : Int)) := fun x hx => by
  have e : XU x (Lib.itoa (yk n d : Int)) = 0 := by
   unfold XU zB
   rw [hx, gi, hz]; rfl
  rw [(Qs e).1, (za _).2, Int.fdiv_eq_ediv_of_nonneg _ (by omega)]
 have vd : zX d / (yk n d : Int) = (((zX d).toNat / yk n d : Nat) : Int) := by
  rw [Int.natCast_ediv]; congr 1; omega
 have qd := dv d hd
 rw [vd] at qd
 have ql : ∀ x : Int, x.natAbs < 10 ^ 300 → (Lib.itoa x).length ≤ 400 := fun x hx => by
  have := YS x
  rw [(Zo (n := x) (k := 300) (by omega) (by omega) hx).2] at this
  have := (yt this).2.1
  omega
 refine ⟨hb, by omega, by omega, by omega, zY.2 ⟨fun c => ?_, fun c => ?_⟩⟩
 ·refine mz (by rw [dv n hn, hg]) (by rw [qd, hg]) ?_ ?_
  ·rw [dv n hn]; exact ql _ (by omega)
  ·rw [qd]; exact ql _ (by rw [Int.natAbs_natCast]; omega)
 ·rw [Bool.not_eq_false', sH] at c
  have c1 := Nat.eq_of_beq_eq_true c
  rw [hg] at c1
  refine mz ?_ ?_ (by omega) (by omega)
  ·rw [c1]
   show n = Lib.itoa (zX n / 1)
   rw [Int.ediv_one, YD n3]
  ·rw [c1, Nat.div_one, show (((zX d).toNat : Nat) : Int) = zX d by omega, YD d3]
def VG : List AV → Option (List zk × AV)
 | [.str n, .str d] => some ([.p (ZR n = 0), .p (ZR d = 0), .p (zX d ≠ 0)], .tup 2 (zw [.str (xt (zX n) (zX d)), .i 0]))
 | _ => none
theorem M9 (G : List (Nat × Obj)) (n : List UInt8) (d : List UInt8) (hn : ZR n = 0) (hd : ZR d = 0) (hp : zX d ≠ 0) :
 let q1 := (True ∧ bA #[] = xt (zX n) (zX d)); let q2 := (bif zB (yH n) (yH d) != iZ then [] else Lib.itoa (cI (yk (yH n) (yH d)))); let q3 := (ByteArray.data (ByteArray.mk #[(49 : UInt8)])); let q4 := (ByteArray.data (ByteArray.mk #[(47 : UInt8)])); let q5 := (bif zB n d != iZ then [] else Lib.itoa (cI (yk n d))); Zv [AV.str n, AV.str d] → zZ (zJ d) (lN n ≤ nM ∧ lN d ≤ nM ∧ lN (yH n) ≤ nM ∧ lN (yH d) ≤ nM ∧ zZ (zB (yH n)
 (yH d) != iZ) (j2 ∧ q1 ∧ kI ∧ zB (yH n) (yH d) = iZ) (zZ (!q2 == Array.toList q3) (lN (yH n) ≤ nM ∧ lN q2 ≤ nM ∧ lN (yH d) ≤ nM ∧ lN q2 ≤ nM ∧ zZ (Yv (yH d) q2 == Array.toList q3) (j2 ∧ (True ∧ Yv (yH n) q2 = xt (zX n) (zX d)) ∧ kI ∧ iZ = iZ) (bF (DB.db (lN (Yv (yH n) q2) + 1 ≤ nX)) (bF (DB.db (lN (Yv (yH n) q2 ++
 Array.toList q4) + lN (Yv (yH d) q2) ≤ nX)) (j2 ∧ (True ∧ Yv (yH n) q2 ++ Array.toList q4 ++ Yv (yH d) q2 = xt (zX n) (zX d)) ∧ kI ∧ iZ = iZ)))) (zZ (yH d == Array.toList q3) (j2 ∧ (True ∧ yH n = xt (zX n) (zX d)) ∧ kI ∧ iZ = iZ) (bF (DB.db (lN (yH n) + 1 ≤ nX)) (bF (DB.db (lN (yH n ++ Array.toList q4) + lN (yH d) ≤ nX)) (2 =
 lN [AV.junk, AV.junk] ∧ (True ∧ yH n ++ Array.toList q4 ++ yH d = xt (zX n) (zX d)) ∧ kI ∧ iZ = iZ)))))) (lN n ≤ nM ∧ lN d ≤ nM ∧ zZ (zB n d != iZ) (j2 ∧ q1 ∧ kI ∧ zB n d = iZ) (zZ (!q5 == Array.toList q3) (lN n ≤ nM ∧ lN q5 ≤ nM ∧ lN d ≤ nM ∧ lN q5 ≤ nM ∧ zZ (Yv d q5 == Array.toList q3) (j2 ∧ (True ∧ Yv n q5 = xt (zX
 n) (zX d)) ∧ kI ∧ iZ = iZ) (bF (DB.db (lN (Yv n q5) + 1 ≤ nX)) (bF (DB.db (lN (Yv n q5 ++ Array.toList q4) + lN (Yv d q5) ≤ nX)) (j2 ∧ (True ∧ Yv n q5 ++ Array.toList q4 ++ Yv d q5 = xt (zX n) (zX d)) ∧ kI ∧ iZ = iZ)))) (zZ (d == Array.toList q3) (j2 ∧ (True ∧ n = xt (zX n) (zX d)) ∧ kI ∧ iZ = iZ) (bF (DB.db (lN n + 1 ≤
 nX)) (bF (DB.db (lN (n ++ Array.toList q4) + lN d ≤ nX)) (j2 ∧ (True ∧ n ++ Array.toList q4 ++ d = xt (zX n) (zX d)) ∧ kI ∧ iZ = iZ)))))) := by
 delta bF bA nX nM cI kI j2 lN iZ
 dsimp only
 intro hb
 simp only [sS, dS]
 have key : ∀ n d : zI, ZR n = 0 → ZR d = 0 → 0 < zX d → _ := fun n d h1 h2 h3 => iP h1 h2 h3
 refine zY.2 ⟨fun c => ?_, fun c => ?_⟩
 ·obtain ⟨o1, o2, o3⟩ := rT hn
  obtain ⟨p1, p2, p3⟩ := rT hd
  have hneg : zX d < 0 := by
   match d, c with
   | x :: r, c =>
    have hx : x = 45 := eq_of_beq c
    subst hx
    have : zX (45 :: r) = -(zc r : Int) := rfl
    omega
  have hs : xt (zX n) (zX d) = ZW (zX (yH n)) (zX (yH d)).toNat := by unfold xt; rw [(zp _ _).2 hneg, o2, p2]; rfl
  obtain ⟨k1, k2, k3, k4, k5⟩ := key (yH n) (yH d) o1 p1 (by omega)
  obtain ⟨_, n2, _⟩ := yt hn
  obtain ⟨_, d2, _⟩ := yt hd
  rw [k1, hs]
  refine ⟨by omega, by omega, by omega, by omega, fun h => absurd rfl h, fun _ => ?_⟩
  refine zY.2 ⟨fun c => ⟨by omega, Nat.le_trans k2 (by decide), by omega, Nat.le_trans k2 (by decide), ?_⟩, fun c => ?_⟩
  ·exact (zY.1 k5).1 c
  ·exact (zY.1 k5).2 c
 ·have hpos : 0 < zX d := by
   obtain ⟨d1, _⟩ := yS.1 hd
   rcases yG d1 with ⟨r, rfl, _⟩ | ⟨g1, g3⟩
   ·cases c
   ·omega
  have hs : xt (zX n) (zX d) = ZW (zX n) (zX d).toNat := by unfold xt; rw [show zF (zX d) 0 = false from Bool.eq_false_iff.2 fun e => by have := (zp _ _).1 e; omega]; rfl
  obtain ⟨k1, k2, k3, k4, k5⟩ := key n d hn hd hpos
  rw [k1, hs]
  refine ⟨by omega, by omega, fun h => absurd rfl h, fun _ => ?_⟩
  refine zY.2 ⟨fun c => ⟨by omega, Nat.le_trans k2 (by decide), by omega, Nat.le_trans k2 (by decide), ?_⟩, fun c => ?_⟩
  ·exact (zY.1 k5).1 c
  ·exact (zY.1 k5).2 c
theorem Jz {G : List (Nat × Obj)} (hG : zN G) (n : List UInt8) (d : List UInt8) (hn : ZR n = 0) (hd : ZR d = 0) (hp : zX d ≠ 0) : zU Tryz.prog G 79 [.str n, .str d] (.tup 2 (zw [.str (xt (zX n) (zX d)), .i 0])) :=
 zW (T := ((((WA G).plus 44 (Yj fun s => .b (zJ s))).plus 96 TA).plus 115 SL).plus 114 Ql) (an := .auto) mixed (zz.plus (zz.plus (zz.plus (zz.plus zo (zO.mono sD)) (NA hG)) (Og hG)) (zO.mono iM)) (Eq.mp (by kernel_rfl) (M9 G n d hn hd hp))
theorem sP {G : List (Nat × Obj)} (hG : zN G) : zO Tryz.prog G 79 VG := by
 intro xs ps r h hp
 unfold VG at h
 split at h
 ·skip
  rename_i n d
  cases h
  obtain ⟨q0, q1, q2, -⟩ := ZH hp
  exact weaken (ys := [.str n, .str d]) ⟨zT _, zT _, trivial⟩ (Jz hG n d q0 q1 q2)
 ·cases h
end Go.Te

namespace Go.Te
open Go Go.Sx Go.Proofs Go.Ar
set_option maxRecDepth 100000
set_option maxHeartbeats 4000000
structure Pt where
 n : zI
 d : zI
instance : zS Pt := ⟨2, ⟨[], []⟩, fun c => zw [.str c.n, .str c.d], fun cs => ⟨AV.bytes (cs 0), AV.bytes (cs 1)⟩, fun cs => ZK (cs 0) && ZK (cs 1), fun cs h j hj => by
 simp only [Bool.and_eq_true] at h
 match j, hj with
 | 0, _ => exact ZT (Xs h.1)
 | 1, _ => exact ZT (Xs h.2)⟩
instance : yc Pt := ⟨fun _ => rfl, fun _ => rfl⟩
def jN (k : Nat) : AV → Bool
 | .fn (.func k') 0 _ 0 _ => Nat.beq k' k
 | _ => false
theorem mh {k : Nat} {x : AV} (h : jN k x = true) : zb x (jV k) := by
 unfold jN at h
 split at h
 ·obtain rfl := Nat.eq_of_beq_eq_true h
  exact ⟨rfl, rfl, rfl, x9, x9⟩
 ·cases h
def tq (x : Nt) : Prop := (-99999999 ≤ x.n ∧ x.n ≤ 99999999) ∧ (0 < x.d ∧ x.d ≤ 99999999)
theorem Yt {a b : Int} (ha : -99999999 ≤ a ∧ a ≤ 99999999) (hb : -99999999 ≤ b ∧ b ≤ 99999999) : -10000000000000000 ≤ a * b ∧ a * b ≤ 10000000000000000 := by
 have h : (a * b).natAbs ≤ 99999999 * 99999999 := by rw [Int.natAbs_mul]; exact Nat.mul_le_mul (by omega) (by omega)
 omega
def NK : List AV → Option (List zk × AV)
 | [.agg 2 p_x, .agg 2 p_y] => some ([.b (YA (p_x 0) && YA (p_x 1)), .b (YA (p_y 0) && YA (p_y 1)), .p (tq (⟨AV.int (p_x 0), AV.int (p_x 1)⟩ : Nt)), .p (tq (⟨AV.int (p_y 0), AV.int (p_y 1)⟩ : Nt))], xR (⟨(⟨AV.int (p_x 0), AV.int (p_x 1)⟩ : Nt).n * (⟨AV.int (p_y 0), AV.int (p_y 1)⟩ : Nt).d + (⟨AV.int (p_y 0), AV.int (p_y 1)⟩ : Nt).n * (⟨AV.int (p_x 0), AV.int (p_x 1)⟩ : Nt).d, (⟨AV.int (p_x 0), AV.int (p_x 1)⟩ : Nt).d * (⟨AV.int (p_y 0), AV.int (p_y 1)⟩ : Nt).d⟩ : Nt))
 | _ => none
theorem jq (x : Nt) (y : Nt) (h1 : tq x) (h2 : tq y) :
 Zv [AV.agg 2 (zS.enc x), AV.agg 2 (zS.enc y)] → bF (dK (Nt.n x * Nt.d y)) (bF (dK (Nt.n y * Nt.d x)) (bF (dK (Nt.n x * Nt.d y + Nt.n y * Nt.d x)) (bF (dK (Nt.d x * Nt.d y)) (2 = 2 ∧ (kI ∧ Nt.n x * Nt.d y + Nt.n y * Nt.d x = Nt.n (Nt.mk (Nt.n x * Nt.d y + Nt.n y * Nt.d x) (Nt.d x * Nt.d y))) ∧ kI ∧ Nt.d x * Nt.d y = Nt.d (Nt.mk (Nt.n x * Nt.d y + Nt.n y * Nt.d x) (Nt.d x * Nt.d y)))))) := by
 delta bF dK kI
 intro hb
 simp only [sS, dS]
 unfold tq at h1 h2
 have m1 := Yt (a := x.n) (b := y.d) h1.1 ⟨by omega, h2.2.2⟩
 have m2 := Yt (a := y.n) (b := x.d) h2.1 ⟨by omega, h1.2.2⟩
 have m3 := Yt (a := x.d) (b := y.d) ⟨by omega, h1.2.2⟩ ⟨by omega, h2.2.2⟩
 exact ⟨⟨by omega, by omega⟩, ⟨by omega, by omega⟩, ⟨by omega, by omega⟩, ⟨by omega, by omega⟩⟩
theorem iF (x : Nt) (y : Nt) (h1 : tq x) (h2 : tq y) : zU Tryz.prog [] 61 [xR x, xR y] (xR (⟨x.n * y.d + y.n * x.d, x.d * y.d⟩ : Nt)) :=
 zW (T := T0) (an := .auto) mixed zo (Eq.mp (by kernel_rfl) (jq x y h1 h2))
theorem Ix : zO Tryz.prog [] 61 NK := by
 intro xs ps r h hp
 unfold NK at h
 split at h
 ·skip
  rename_i p_x p_y
  cases h
  obtain ⟨q0, q1, q2, q3, -⟩ := ZH hp
  exact weaken (ys := [xR (⟨AV.int (p_x 0), AV.int (p_x 1)⟩ : Nt), xR (⟨AV.int (p_y 0), AV.int (p_y 1)⟩ : Nt)]) ⟨Zt (x := .agg 2 p_x) (α := Nt) q0, Zt (x := .agg 2 p_y) (α := Nt) q1, trivial⟩ (iF (⟨AV.int (p_x 0), AV.int (p_x 1)⟩ : Nt) (⟨AV.int (p_y 0), AV.int (p_y 1)⟩ : Nt) q2 q3)
 ·cases h
def nt : List AV → Option (List zk × AV)
 | [.agg 2 p_x, .agg 2 p_y] => some ([.b (YA (p_x 0) && YA (p_x 1)), .b (YA (p_y 0) && YA (p_y 1)), .p (tq (⟨AV.int (p_x 0), AV.int (p_x 1)⟩ : Nt)), .p (tq (⟨AV.int (p_y 0), AV.int (p_y 1)⟩ : Nt))], xR (⟨(⟨AV.int (p_x 0), AV.int (p_x 1)⟩ : Nt).n * (⟨AV.int (p_y 0), AV.int (p_y 1)⟩ : Nt).n, (⟨AV.int (p_x 0), AV.int (p_x 1)⟩ : Nt).d * (⟨AV.int (p_y 0), AV.int (p_y 1)⟩ : Nt).d⟩ : Nt))
 | _ => none
theorem K4 (x : Nt) (y : Nt) (h1 : tq x) (h2 : tq y) :
 Zv [AV.agg 2 (zS.enc x), AV.agg 2 (zS.enc y)] → bF (dK (Nt.n x * Nt.n y)) (bF (dK (Nt.d x * Nt.d y)) (2 = 2 ∧ (kI ∧ Nt.n x * Nt.n y = Nt.n (Nt.mk (Nt.n x * Nt.n y) (Nt.d x * Nt.d y))) ∧ kI ∧ Nt.d x * Nt.d y = Nt.d (Nt.mk (Nt.n x * Nt.n y) (Nt.d x * Nt.d y)))) := by
 delta bF dK kI
 intro hb
 simp only [sS, dS]
 unfold tq at h1 h2
 have m1 := Yt (a := x.n) (b := y.n) h1.1 ⟨by omega, h2.1.2⟩
 have m2 := Yt (a := y.n) (b := x.d) h2.1 ⟨by omega, h1.2.2⟩
 have m3 := Yt (a := x.d) (b := y.d) ⟨by omega, h1.2.2⟩ ⟨by omega, h2.2.2⟩
 exact ⟨⟨by omega, by omega⟩, ⟨by omega, by omega⟩⟩
theorem Hw (x : Nt) (y : Nt) (h1 : tq x) (h2 : tq y) : zU Tryz.prog [] 76 [xR x, xR y] (xR (⟨x.n * y.n, x.d * y.d⟩ : Nt)) :=
 zW (T := T0) (an := .auto) mixed zo (Eq.mp (by kernel_rfl) (K4 x y h1 h2))
theorem iD : zO Tryz.prog [] 76 nt := by
 intro xs ps r h hp
 unfold nt at h
 split at h
 ·skip
  rename_i p_x p_y
  cases h
  obtain ⟨q0, q1, q2, q3, -⟩ := ZH hp
  exact weaken (ys := [xR (⟨AV.int (p_x 0), AV.int (p_x 1)⟩ : Nt), xR (⟨AV.int (p_y 0), AV.int (p_y 1)⟩ : Nt)]) ⟨Zt (x := .agg 2 p_x) (α := Nt) q0, Zt (x := .agg 2 p_y) (α := Nt) q1, trivial⟩ (Hw (⟨AV.int (p_x 0), AV.int (p_x 1)⟩ : Nt) (⟨AV.int (p_y 0), AV.int (p_y 1)⟩ : Nt) q2 q3)
 ·cases h
def Vj (f : Int → Int → Int) (x y : Pt) : Int :=
 bif ZM (zX x.n * zX y.d) != 0 then ZM (zX x.n * zX y.d) else bif ZM (zX y.n * zX x.d) != 0 then ZM (zX y.n * zX x.d)
 else bif ZM (f (zX x.n * zX y.d) (zX y.n * zX x.d)) != 0 then ZM (f (zX x.n * zX y.d) (zX y.n * zX x.d)) else ZM (zX x.d * zX y.d)
def RB (f : Int → Int → Int) (x y : Pt) : zI := bif Vj f x y == 0 then xt (f (zX x.n * zX y.d) (zX y.n * zX x.d)) (zX x.d * zX y.d) else []
def tN (x : Pt) : Prop := ZR x.n = 0 ∧ ZR x.d = 0 ∧ zX x.d ≠ 0
theorem wx {f : Int → Int → Int} {a b : zI} (ha : ZR a = 0) (hb : ZR b = 0) : YB f a b = ZM (f (zX a) (zX b)) ∧ y8 f a b = Yi (f (zX a) (zX b)) := by
 have hE : zB a b = 0 := by unfold zB; rw [ha, hb]; rfl
 obtain ⟨e1, e2⟩ := VE (f := f) hE
 exact ⟨e2, e1⟩
theorem w8 {n : Int} (h : ZM n = 0) : ZR (Yi n) = 0 ∧ zX (Yi n) = n ∧ (Yi n).length ≤ 400 := by
 have e : Yi n = Lib.itoa n := by unfold Yi; rw [h]; rfl
 have hi : ZR (Lib.itoa n) = 0 := by rw [YS, h]
 rw [e]
 exact ⟨hi, (za n).2, by have := (yt hi).2.1; omega⟩
theorem jf {f : Int → Int → Int} {x y : Pt} (h1 : tN x) (h2 : tN y) :
 x.n.length ≤ 4294967280 ∧ y.d.length ≤ 4294967280 ∧
  (YB (fun x1 x2 => x1 * x2) x.n y.d ≠ 0 →
   (YB (fun x1 x2 => x1 * x2) x.n y.d ≠ 0 → 2 = [AV.junk, AV.junk].length ∧ [] = RB f x y ∧ YB (fun x1 x2 => x1 * x2) x.n y.d = Vj f x y) ∧
   (YB (fun x1 x2 => x1 * x2) x.n y.d = 0 → 2 = [AV.junk, AV.junk].length ∧ [] = RB f x y ∧ YB f [] [] = Vj f x y)) ∧
  (YB (fun x1 x2 => x1 * x2) x.n y.d = 0 → y.n.length ≤ 4294967280 ∧ x.d.length ≤ 4294967280 ∧
   (YB (fun x1 x2 => x1 * x2) y.n x.d ≠ 0 → 2 = [AV.junk, AV.junk].length ∧ [] = RB f x y ∧ YB (fun x1 x2 => x1 * x2) y.n x.d = Vj f x y) ∧
   (YB (fun x1 x2 => x1 * x2) y.n x.d = 0 → (y8 (fun x1 x2 => x1 * x2) x.n y.d).length ≤ 4294967280 ∧ (y8 (fun x1 x2 => x1 * x2) y.n x.d).length ≤ 4294967280 ∧
    (YB f (y8 (fun x1 x2 => x1 * x2) x.n y.d) (y8 (fun x1 x2 => x1 * x2) y.n x.d) ≠ 0 → 2 = [AV.junk, AV.junk].length ∧ [] = RB f x y ∧ YB f (y8 (fun x1 x2 => x1 * x2) x.n y.d) (y8 (fun x1 x2 => x1 * x2) y.n x.d) = Vj f x y) ∧
    (YB f (y8 (fun x1 x2 => x1 * x2) x.n y.d) (y8 (fun x1 x2 => x1 * x2) y.n x.d) = 0 → x.d.length ≤ 4294967280 ∧ y.d.length ≤ 4294967280 ∧
     (YB (fun x1 x2 => x1 * x2) x.d y.d ≠ 0 → 2 = [AV.junk, AV.junk].length ∧ [] = RB f x y ∧ YB (fun x1 x2 => x1 * x2) x.d y.d = Vj f x y) ∧
     (YB (fun x1 x2 => x1 * x2) x.d y.d = 0 → ZR (y8 f (y8 (fun x1 x2 => x1 * x2) x.n y.d) (y8 (fun x1 x2 => x1 * x2) y.n x.d)) = 0 ∧ ZR (y8 (fun x1 x2 => x1 * x2) x.d y.d) = 0 ∧ zX (y8 (fun x1 x2 => x1 * x2) x.d y.d) ≠ 0 ∧
      2 = [AV.junk, AV.junk].length ∧ xt (zX (y8 f (y8 (fun x1 x2 => x1 * x2) x.n y.d) (y8 (fun x1 x2 => x1 * x2) y.n x.d))) (zX (y8 (fun x1 x2 => x1 * x2) x.d y.d)) = RB f x y ∧ 0 = Vj f x y)))) := by
 obtain ⟨a1, a2, a3⟩ := h1
 obtain ⟨b1, b2, b3⟩ := h2
 have l1 := (yt a1).2.1
 have l2 := (yt a2).2.1
 have l3 := (yt b1).2.1
 have l4 := (yt b2).2.1
 obtain ⟨p1, p2⟩ := wx (f := fun x1 x2 => x1 * x2) a1 b2
 obtain ⟨p3, p4⟩ := wx (f := fun x1 x2 => x1 * x2) b1 a2
 obtain ⟨p5, p6⟩ := wx (f := fun x1 x2 => x1 * x2) a2 b2
 have bad : ∀ e : Int, e ≠ 0 → e = Vj f x y → 2 = [AV.junk, AV.junk].length ∧ [] = RB f x y ∧ e = Vj f x y := fun e h0 h => ⟨rfl, by unfold RB; rw [← h, beq_eq_false_iff_ne.2 h0]; rfl, h⟩
 rw [p1, p2, p3, p4, p5, p6]
 refine ⟨by omega, by omega, fun h => ⟨fun _ => bad _ h ?_, fun h0 => absurd h0 h⟩, fun g1 => ⟨by omega, by omega, fun h => bad _ h ?_, fun g2 => ?_⟩⟩
 ·unfold Vj; rw [bne_iff_ne.2 h]; rfl
 ·unfold Vj; rw [g1, bne_iff_ne.2 h]; rfl
 obtain ⟨r1, r2, r3⟩ := w8 g1
 obtain ⟨r4, r5, r6⟩ := w8 g2
 obtain ⟨p7, p8⟩ := wx (f := f) r1 r4
 rw [r2, r5] at p7 p8
 rw [p7, p8]
 refine ⟨by omega, by omega, fun h => bad _ h ?_, fun g3 => ⟨by omega, by omega, fun h => bad _ h ?_, fun g4 => ?_⟩⟩
 ·unfold Vj; rw [g1, g2, bne_iff_ne.2 h]; rfl
 ·unfold Vj; rw [g1, g2, g3]; rfl
 obtain ⟨s1, s2, s3⟩ := w8 g3
 obtain ⟨s4, s5, s6⟩ := w8 g4
 have e : Vj f x y = 0 := by unfold Vj; rw [g1, g2, g3, g4]; rfl
 rw [s2, s5]
 exact ⟨s1, s4, Int.mul_ne_zero a3 b3, rfl, by unfold RB; rw [e]; rfl, e.symm⟩
noncomputable def gI (G : List (Nat × Obj)) : Tb := (((((WA G).plus 78 vW).plus 64 Ul).plus 118 sT).plus 79 VG).body Tryz.prog [(58, .auto)]
theorem PC {G : List (Nat × Obj)} (hG : zN G) : zz Tryz.prog (gI G) := zz.body mixed (zz.plus (zz.plus (zz.plus (zz.plus zo (U2 hG)) (QV hG)) (nr hG)) (sP hG)) _
def OG : List AV → Option (List zk × AV)
 | [.agg 2 p_x, .agg 2 p_y, .xq 1 c_cf 0] => some ([.b (ZK (p_x 0) && ZK (p_x 1)), .b (ZK (p_y 0) && ZK (p_y 1)), .b (jN 64 (c_cf 0)), .p (tN (⟨AV.bytes (p_x 0), AV.bytes (p_x 1)⟩ : Pt)), .p (tN (⟨AV.bytes (p_y 0), AV.bytes (p_y 1)⟩ : Pt))], .tup 2 (zw [.str (RB (· + ·) (⟨AV.bytes (p_x 0), AV.bytes (p_x 1)⟩ : Pt) (⟨AV.bytes (p_y 0), AV.bytes (p_y 1)⟩ : Pt)), .i (Vj (· + ·) (⟨AV.bytes (p_x 0), AV.bytes (p_x 1)⟩ : Pt) (⟨AV.bytes (p_y 0), AV.bytes (p_y 1)⟩ : Pt))]))
 | _ => none
theorem jJ (G : List (Nat × Obj)) (x : Pt) (y : Pt) (h1 : tN x) (h2 : tN y) :
 let q1 := (YB (fun (x1 x2 : Int) => x1 * x2) (Pt.n x) (Pt.d y) != iZ); let q2 := (True ∧ bA #[] = RB (fun (x1 x2 : Int) => x1 + x2) x y); let q3 := (bA #[]); let q4 := (y8 (fun (x1 x2 : Int) => x1 * x2) (Pt.n x) (Pt.d y)); let q5 := (y8 (fun (x1 x2 : Int) => x1 * x2) (Pt.n y) (Pt.d x)); let q6 := (y8 (fun (x1 x2 : Int) => x1 + x2) q4 q5); let q7 := (y8 (fun (x1 x2 : Int) => x1 * x2) (Pt.d x) (Pt.d y)); Zv [AV.agg 2 (zS.enc x), AV.agg 2 (zS.enc y), AV.xq 1 (fun (x : Nat) => AV.fn (Fn.func (64 :
 FuncId)) 0 (fun (x : Nat) => AV.junk) 0 fun (x : Nat) => AV.junk) 0] → lN (Pt.n x) ≤ nM ∧ lN (Pt.d y) ≤ nM ∧ zZ q1 (zZ q1 (j2 ∧ q2 ∧ kI ∧ YB (fun (x1 x2 : Int) => x1 * x2) (Pt.n x) (Pt.d y) = Vj (fun (x1 x2 : Int) => x1 + x2) x y) (0 ≤ nM ∧ 0 ≤ nM ∧ j2 ∧ q2 ∧ kI ∧ YB (fun (x1 x2 : Int) => x1 + x2) q3 q3 = Vj (fun (x1 x2 : Int) => x1 + x2) x y)) (lN (Pt.n y) ≤ nM ∧ lN (Pt.d x) ≤ nM ∧ zZ (YB (fun (x1 x2
 : Int) => x1 * x2) (Pt.n y) (Pt.d x) != iZ) (j2 ∧ q2 ∧ kI ∧ YB (fun (x1 x2 : Int) => x1 * x2) (Pt.n y) (Pt.d x) = Vj (fun (x1 x2 : Int) => x1 + x2) x y) (lN q4 ≤ nM ∧ lN q5 ≤ nM ∧ zZ (YB (fun (x1 x2 : Int) => x1 + x2) q4 q5 != iZ) (j2 ∧ q2 ∧ kI ∧ YB (fun (x1 x2 : Int) => x1 + x2) q4 q5 = Vj (fun (x1 x2 : Int) => x1 + x2) x y) (lN (Pt.d x) ≤ nM ∧ lN (Pt.d y) ≤ nM ∧ zZ (YB (fun (x1 x2 : Int) => x1 * x2)
 (Pt.d x) (Pt.d y) != iZ) (j2 ∧ q2 ∧ kI ∧ YB (fun (x1 x2 : Int) => x1 * x2) (Pt.d x) (Pt.d y) = Vj (fun (x1 x2 : Int) => x1 + x2) x y) (ZR q6 = iZ ∧ ZR q7 = iZ ∧ zX q7 ≠ iZ ∧ j2 ∧ (True ∧ xt (zX q6) (zX q7) = RB (fun (x1 x2 : Int) => x1 + x2) x y) ∧ kI ∧ iZ = Vj (fun (x1 x2 : Int) => x1 + x2) x y)))) := by
 delta bA nM kI j2 lN iZ
 dsimp only
 intro hb
 simp only [sS, dS]
 exact jf h1 h2
theorem I1 {G : List (Nat × Obj)} (hG : zN G) (x : Pt) (y : Pt) (h1 : tN x) (h2 : tN y) : zU Tryz.prog G 102 [xR x, xR y, .xq 1 (fun _ => jV 64) 0] (.tup 2 (zw [.str (RB (· + ·) x y), .i (Vj (· + ·) x y)])) :=
 zW (T := gI G) (an := .auto) mixed (PC hG) (Eq.mp (by kernel_rfl) (jJ G x y h1 h2))
theorem I3 {G : List (Nat × Obj)} (hG : zN G) : zO Tryz.prog G 102 OG := by
 intro xs ps r h hp
 unfold OG at h
 split at h
 ·skip
  rename_i p_x p_y c_cf
  cases h
  obtain ⟨q0, q1, q2, q3, q4, -⟩ := ZH hp
  exact weaken (ys := [xR (⟨AV.bytes (p_x 0), AV.bytes (p_x 1)⟩ : Pt), xR (⟨AV.bytes (p_y 0), AV.bytes (p_y 1)⟩ : Pt), .xq 1 (fun _ => jV 64) 0]) ⟨Zt (x := .agg 2 p_x) (α := Pt) q0, Zt (x := .agg 2 p_y) (α := Pt) q1, ⟨rfl, rfl, mh q2⟩, trivial⟩ (I1 hG (⟨AV.bytes (p_x 0), AV.bytes (p_x 1)⟩ : Pt) (⟨AV.bytes (p_y 0), AV.bytes (p_y 1)⟩ : Pt) q3 q4)
 ·cases h
def Rb (x y : Pt) : Int := bif ZM (zX x.n * zX y.n) != 0 then ZM (zX x.n * zX y.n) else ZM (zX x.d * zX y.d)
def Mj (x y : Pt) : zI := bif Rb x y == 0 then xt (zX x.n * zX y.n) (zX x.d * zX y.d) else []
def nO : List AV → Option (List zk × AV)
 | [.agg 2 p_x, .agg 2 p_y] => some ([.b (ZK (p_x 0) && ZK (p_x 1)), .b (ZK (p_y 0) && ZK (p_y 1)), .p (tN (⟨AV.bytes (p_x 0), AV.bytes (p_x 1)⟩ : Pt)), .p (tN (⟨AV.bytes (p_y 0), AV.bytes (p_y 1)⟩ : Pt))], .tup 2 (zw [.str (Mj (⟨AV.bytes (p_x 0), AV.bytes (p_x 1)⟩ : Pt) (⟨AV.bytes (p_y 0), AV.bytes (p_y 1)⟩ : Pt)), .i (Rb (⟨AV.bytes (p_x 0), AV.bytes (p_x 1)⟩ : Pt) (⟨AV.bytes (p_y 0), AV.bytes (p_y 1)⟩ : Pt))]))
 | _ => none
theorem Jk (G : List (Nat × Obj)) (x : Pt) (y : Pt) (h1 : tN x) (h2 : tN y) :
 let q1 := (True ∧ bA #[] = Mj x y); let q2 := (y8 (fun (x1 x2 : Int) => x1 * x2) (Pt.n x) (Pt.n y)); let q3 := (y8 (fun (x1 x2 : Int) => x1 * x2) (Pt.d x) (Pt.d y)); Zv [AV.agg 2 (zS.enc x), AV.agg 2 (zS.enc y)] → lN (Pt.n x) ≤ nM ∧ lN (Pt.n y) ≤ nM ∧ zZ (YB (fun (x1 x2 : Int) => x1 * x2) (Pt.n x) (Pt.n y) != iZ) (j2 ∧ q1 ∧ kI ∧ YB (fun (x1 x2 : Int) => x1 * x2) (Pt.n x) (Pt.n y) = Rb x y) (lN (Pt.d x) ≤ nM ∧ lN (Pt.d y) ≤
 nM ∧ zZ (YB (fun (x1 x2 : Int) => x1 * x2) (Pt.d x) (Pt.d y) != iZ) (j2 ∧ q1 ∧ kI ∧ YB (fun (x1 x2 : Int) => x1 * x2) (Pt.d x) (Pt.d y) = Rb x y) (ZR q2 = iZ ∧ ZR q3 = iZ ∧ zX q3 ≠ iZ ∧ j2 ∧ (True ∧ xt (zX q2) (zX q3) = Mj x y) ∧ kI ∧ iZ = Rb x y)) := by
 delta bA nM kI j2 lN iZ
 dsimp only
 intro hb
 simp only [sS, dS]
 obtain ⟨a1, a2, a3⟩ := h1
 obtain ⟨b1, b2, b3⟩ := h2
 have l1 := (yt a1).2.1
 have l2 := (yt a2).2.1
 have l3 := (yt b1).2.1
 have l4 := (yt b2).2.1
 obtain ⟨p1, p2⟩ := wx (f := fun x1 x2 => x1 * x2) a1 b1
 obtain ⟨p5, p6⟩ := wx (f := fun x1 x2 => x1 * x2) a2 b2
 have bad : ∀ e : Int, e ≠ 0 → e = Rb x y → 2 = [AV.junk, AV.junk].length ∧ [] = Mj x y ∧ e = Rb x y := fun e h0 h => ⟨rfl, by unfold Mj; rw [← h, beq_eq_false_iff_ne.2 h0]; rfl, h⟩
 rw [p1, p2, p5, p6]
 refine ⟨by omega, by omega, fun h => bad _ h ?_, fun g1 => ⟨by omega, by omega, fun h => bad _ h ?_, fun g4 => ?_⟩⟩
 ·unfold Rb; rw [bne_iff_ne.2 h]; rfl
 ·unfold Rb; rw [g1]; rfl
 obtain ⟨s1, s2, s3⟩ := w8 g1
 obtain ⟨s4, s5, s6⟩ := w8 g4
 have e : Rb x y = 0 := by unfold Rb; rw [g1, g4]; rfl
 rw [s2, s5]
 exact ⟨s1, s4, Int.mul_ne_zero a3 b3, rfl, by unfold Mj; rw [e]; rfl, e.symm⟩
theorem IR {G : List (Nat × Obj)} (hG : zN G) (x : Pt) (y : Pt) (h1 : tN x) (h2 : tN y) : zU Tryz.prog G 77 [xR x, xR y] (.tup 2 (zw [.str (Mj x y), .i (Rb x y)])) :=
 zW (T := ((WA G).plus 78 vW).plus 79 VG) (an := .auto) mixed (zz.plus (zz.plus zo (U2 hG)) (sP hG)) (Eq.mp (by kernel_rfl) (Jk G x y h1 h2))
theorem IL {G : List (Nat × Obj)} (hG : zN G) : zO Tryz.prog G 77 nO := by
 intro xs ps r h hp
 unfold nO at h
 split at h
 ·skip
  rename_i p_x p_y
  cases h
  obtain ⟨q0, q1, q2, q3, -⟩ := ZH hp
  exact weaken (ys := [xR (⟨AV.bytes (p_x 0), AV.bytes (p_x 1)⟩ : Pt), xR (⟨AV.bytes (p_y 0), AV.bytes (p_y 1)⟩ : Pt)]) ⟨Zt (x := .agg 2 p_x) (α := Pt) q0, Zt (x := .agg 2 p_y) (α := Pt) q1, trivial⟩ (IR hG (⟨AV.bytes (p_x 0), AV.bytes (p_x 1)⟩ : Pt) (⟨AV.bytes (p_y 0), AV.bytes (p_y 1)⟩ : Pt) q2 q3)
 ·cases h
end Go.Te
