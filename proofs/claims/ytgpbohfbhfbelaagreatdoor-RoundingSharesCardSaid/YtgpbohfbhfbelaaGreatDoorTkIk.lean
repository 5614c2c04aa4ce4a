/- integer: Divide, Gcd. -/
import Derived.Test.YtgpbohfbhfbelaaGreatDoorTkIi
set_option linter.unusedSimpArgs false
set_option linter.unusedVariables false
namespace Go.Te
open Go Go.Sx Go.Proofs Go.Ar
set_option maxRecDepth 100000
set_option maxHeartbeats 4000000
theorem mL (m t : Bool) {A B q r : Int} (hB : 0 < B) (h : r + B * q = bif !(m == t) then -A else A) (h0 : 0 ≤ r) (h1 : r < B) :
  Int.fdiv (bif m then -A else A) (bif t then -B else B) = q ∧ Int.fmod (bif m then -A else A) (bif t then -B else B) = bif t then -r else r := by
 cases t with
 | false =>
  refine Rw ?_ (.inl ⟨hB, h0, h1⟩)
  cases m <;> simpa using h
 | true =>
  refine Rw ?_ (.inr ⟨by simp; omega, by simp; omega, by simp; omega⟩)
  cases m <;> simp [Int.neg_mul] at h ⊢ <;> omega
theorem WO (n : Bool) (k : Nat) : YY n (zT 1000000000 k) = bif n then -(k : Int) else k := by unfold YY; rw [xD]
theorem lw {a b : zj} (h : xC a b ≠ 0) : yP a b = [] ∧ WQ a b = [] := by
 unfold yP WQ
 rw [beq_eq_false_iff_ne.2 h]
 exact ⟨rfl, rfl⟩
theorem rp {a b : zj} (h : xC a b = 0) : yP a b = Lib.itoa (Int.fdiv (zX a) (zX b)) ∧ WQ a b = Lib.itoa (Int.fmod (zX a) (zX b)) := by
 unfold yP WQ
 rw [h]
 exact ⟨rfl, rfl⟩
theorem sd {a : zj} (h : ZU a = 0) : (zX a).natAbs < 10 ^ 300 := by
 obtain ⟨h1, h2⟩ := yq.1 h
 rw [wo h1] at h2
 exact (ZX (k := 300) (u := (zX a).natAbs) (by omega)).1 h2
theorem Hc {b : zj} (h : Zy b = true) (h0 : b ≠ [48]) : zX b ≠ 0 := fun e => h0 (by
 rw [← Yt h, e]
 have : Lib.itoa ((0 : Nat) : Int) = [48] := by rw [Go.Ar.Z0, ZZ (by omega)]; rfl
 exact this)
theorem Rf {a : zj} (h : Zy a = true) : (bif zJ a then -((zX a).natAbs : Int) else ((zX a).natAbs : Int)) = zX a := by
 have := xt h
 rw [WO] at this
 exact this
theorem MU (l : List Int) : yR (AV.agg 2 (zw [AV.v ((Value.agg #[Value.bool false, Value.slice none 0 0]).cells.getD 0 undef), AV.xl false 1 l.length fun i j => AV.v (Value.int IntKind.i64 (l.getD i 0))])) = (⟨false, l⟩ : Big) := Xy false l
theorem QO (l : List Int) : yo Big (AV.agg 2 (zw [AV.v ((Value.agg #[Value.bool false, Value.slice none 0 0]).cells.getD 0 undef), AV.xl false 1 l.length fun i j => AV.v (Value.int IntKind.i64 (l.getD i 0))])) = true := xY false l
def V4 : List AV → Option (List zN × AV)
 | [.str a, .str b] => some ([.p (a.length ≤ 4294967280), .p (b.length ≤ 4294967280)], .tup 3 (zw [.str (yP a b), .str (WQ a b), .i (xC a b)]))
 | _ => none
theorem kZ (G : List (Nat × Obj)) (a : List UInt8) (b : List UInt8) (hla : a.length ≤ 4294967280) (hlb : b.length ≤ 4294967280) :
 let q1 := ((True ∧ bA #[] = yP a b) ∧ bA #[] = WQ a b); let q3 := (bif leB (lZ a) (18 : Int) && leB (lZ b) (18 : Int) then zX b else iZ); let q2 := (DB.db (q3 ≠ iZ)); let q5 := (bif leB (lZ a) (18 : Int) && leB (lZ b) (18 : Int) then zX a else iZ); let q4 := (Int.tdiv q5 q3); let q7 := (Int.tmod q5 q3 != iZ); let q6 := (!zS true q7 || zS true q7); let q8 := (Int.tmod q5 q3); let q9 := (Int.tdiv q5 q3 -
 iO); let q10 := (Int.tmod q5 q3 + bif leB (lZ a) (18 : Int) && leB (lZ b) (18 : Int) then zX b else iZ); let q12 := (zT 1000000000 (Int.natAbs (zX a))); let q11 := (xI q12); let q15 := (zT 1000000000 (Int.natAbs (zX b))); let q14 := (xI q15); let q13 := (ze Int q14); let q16 := (zU q11); let q18 := (zU q14); let q17 := (∀ (x : Int), List.Mem x q18 → (0 :
 Int) ≤ x ∧ x < iB); let q19 := (!zS true !zJ a == zJ b || zS true !zJ a == zJ b); let q22 := (zt iB q16); let q23 := (zt iB q18); let q21 := (zT 1000000000 (Int.toNat q22 % Int.toNat q23)); let q20 := (lN q21); let q26 := (zT 1000000000 (Int.toNat q22 / Int.toNat q23)); let q25 := (lN q26); let q24 := (AV.xl false 1 q25 fun i j => aI (gD q26 i zR.dflt)); let q27 := (zU q24); let q28 := (zU (AV.xl true 1 1 (Sx.rowAt [fun (x : Nat) => aI iO]))); let
 q29 := (AV.xl false 1 q20 fun i j => aI (gD q21 i zR.dflt)); let q30 := (zU q29); let q32 := (zT 1000000000 (Int.toNat (zt iB q27 + zt iB q28))); let q31 := (AV.agg 2 (zw [AV.v (Value.bool !zJ a == zJ b), xI q32])); let q35 := (yR q31); let q34 := (Big.l q35); let q37 := (zT 1000000000 (Int.toNat (zt iB q18 - zt iB q30))); let q36 := (AV.agg 2 (zw [AV.v (Value.bool (zJ b)), AV.xl false 1
 (lN q37) fun i j => aI (gD q37 i zR.dflt)])); let q39 := (yR q36); let q38 := (Big.l q39); let q41 := (YY (Big.neg q35) q34); let q40 := (ZN q41 != iZ); let q42 := (YY (Big.neg q39) q38); let q43 := (3 = lN [AV.junk, AV.junk, AV.junk] ∧ q1 ∧ kI ∧ (4 : Int) = xC a b); let q44 := (AV.agg 2 (zw [AV.v (Value.bool !zJ a == zJ b), AV.xl false 1 q25 fun i j => aI (gD q26 i zR.dflt)])); let q46 := (yR q44); let q45 := (Big.l q46); let q47 := (AV.agg 2 (zw [AV.v (Value.bool (zJ b)),
 AV.xl false 1 q20 fun i j => aI (gD q21 i zR.dflt)])); let q49 := (yR q47); let q48 := (Big.l q49); let q51 := (YY (Big.neg q46) q45); let q50 := (ZN q51 != iZ); let q52 := (YY (Big.neg q49) q48); zB [AV.str a, AV.str b] → lN a ≤ nM ∧ lN b ≤ nM ∧ zZ (zb a b != iZ) (3 = lN [AV.junk, AV.junk, AV.junk] ∧ q1 ∧ kI ∧ zb a b = xC a b) (zZ (b == bA #[(48 : UInt8)]) (3 = lN [AV.junk, AV.junk, AV.junk] ∧ q1 ∧ kI ∧
 (12 : Int) = xC a b) (Zy a = true ∧ Zy b = true ∧ (18 : Int) = (18 : Int) ∧ zZ (leB (lZ a) (18 : Int) && leB (lZ b) (18 : Int)) (bF q2 (bF (dK q4) (bF q2 (bF q6 (bF q6 (bF q6 (bF q6 (bF (!Int.tmod q5 q3 != iZ || zS true q7) (zZ (bif Int.tmod q5 q3 != iZ then !zM q8 iZ == zM q3 iZ else false) (bF (dK q9) (bF (dK q10) ((iN ≤ Int.tdiv q5 q3 - iO ∧ Int.tdiv q5 q3 - iO ≤ iX)
 ∧ ((iN ≤ Int.tmod q5 q3 + bif leB (lZ a) (18 : Int) && leB (lZ b) (18 : Int) then zX b else iZ) ∧ q10 ≤ iX) ∧ 3 = lN [AV.junk, AV.junk, AV.junk] ∧ ((True ∧ Lib.itoa q9 = yP a b) ∧ Lib.itoa q10 = WQ a b) ∧ kI ∧ iZ = xC a b))) ((iN ≤ Int.tdiv q5 q3 ∧ Int.tdiv q5 q3 ≤ iX) ∧ (iN ≤ Int.tmod q5 q3 ∧ Int.tmod q5 q3 ≤ iX) ∧ 3 = lN [AV.junk, AV.junk,
 AV.junk] ∧ ((True ∧ Lib.itoa q4 = yP a b) ∧ Lib.itoa q8 = WQ a b) ∧ kI ∧ iZ = xC a b)))))))))) (Zy a = true ∧ lN a ≤ 100000000 ∧ Zy b = true ∧ lN b ≤ 100000000 ∧ bF (ze Int q11) (bF q13 ((∀ (x : Int), List.Mem x q16 → iZ ≤ x ∧ x < iB) ∧ q17 ∧ zf q16 = zU q11 ∧ zf q18 = zU q14 ∧ lN q18 ≠ 0 ∧ lN q16 ≤ 100000000 ∧ lN q18 ≤ 100000000 ∧ bF q19 (bF q19 (bF (!!zJ a == zJ b || zS true !zJ a == zJ b) (zZ
 (bif !zJ a == zJ b then zM iZ (cI q20) else false) (bF (ze Int q24) ((∀ (x : Int), List.Mem x q27 → iZ ≤ x ∧ x < iB) ∧ (∀ (x : Int), List.Mem x (zU (AV.xl true 1 1 (Sx.rowAt [fun (x : Nat) => aI iO]))) → iZ ≤ x ∧ x < iB) ∧ lN q27 ≤ 1000000000 ∧ lN q28 ≤ 1000000000 ∧ bF q13 (bF (ze Int q29) (q17 ∧ (∀ (x : Int), List.Mem x q30 → iZ ≤ x ∧ x < iB) ∧ lN q18 ≤ 1000000000 ∧ lN q30 ≤ 1000000000 ∧ zt iB q30 ≤ zt
 iB q18 ∧ bF (yo Big q31) ((∀ (x : Int), let q33 := (zT 1000000000 (Int.toNat (zt iB q27 + zt iB (zU (AV.xl true 1 1 (Sx.rowAt [fun (x : Nat) => aI iO])))))); List.Mem x (Big.l (yR (AV.agg 2 (zw [AV.v (Value.bool !zJ a == zJ b), xI q33])))) → iZ ≤ x ∧ x < iB) ∧ zf q34 = Big.l q35 ∧ lN q34 ≤ 100000000 ∧ bF (yo Big q36) ((∀ (x : Int), List.Mem x q38 → iZ ≤ x ∧ x <
 iB) ∧ zf q38 = Big.l q39 ∧ lN q38 ≤ 100000000 ∧ bF (!zS false q40 || zS false q40) (bF (!!ZN q41 != iZ || zS false q40) (zZ (bif ZN q41 != iZ then true else ZN q42 != iZ) q43 (3 = lN [AV.junk, AV.junk, AV.junk] ∧ ((True ∧ Yg q41 = yP a b) ∧ Yg q42 = WQ a b) ∧ kI ∧ iZ = xC a b))))))))) (bF (yo Big q44) ((∀ (x : Int), List.Mem x q45 → iZ ≤ x ∧ x < iB) ∧ zf q45 = Big.l q46 ∧ lN q45 ≤ 100000000 ∧ zZ
 (yo Big q47) ((∀ (x : Int), List.Mem x q48 → iZ ≤ x ∧ x < iB) ∧ zf q48 = Big.l q49 ∧ lN q48 ≤ 100000000 ∧ bF (!zS false q50 || zS false q50) (bF (!!ZN q51 != iZ || zS false q50) (zZ (bif ZN q51 != iZ then true else ZN q52 != iZ) q43 (3 = lN [AV.junk, AV.junk, AV.junk] ∧ ((True ∧ Yg q51 = yP a b) ∧ Yg q52 = WQ a b) ∧ kI ∧ iZ = xC a b)))) False)))))))))) := by
 delta bF dK bA xI nM cI kI lZ lN gD iZ iO iX iN iB aI
 dsimp only
 intro hb
 have e0 : (zR.dflt : Int) = 0 := rfl
 simp only [↓Zf, ↓Zu, row_one]
 simp only [sS, dS, e0, Xi, xr, Xy, xY, wC, Xl, wM, Xk, X6, kz, xD, Kz, MU, QO]
 refine ⟨by omega, by omega, fun hE => ?_, fun hE => zY.2 ⟨fun c0 => ?_, fun c0 => ?_⟩⟩
 ·have e : xC a b = zb a b := by unfold xC; rw [bne_iff_ne.2 hE]; rfl
  obtain ⟨d1, d2⟩ := lw (a := a) (b := b) (by rw [e]; exact hE)
  exact ⟨rfl, ⟨d1.symm, d2.symm⟩, e.symm⟩
 ·have e : xC a b = 12 := by unfold xC; rw [hE, c0]; rfl
  obtain ⟨d1, d2⟩ := lw (a := a) (b := b) (by rw [e]; decide)
  exact ⟨rfl, ⟨d1.symm, d2.symm⟩, e.symm⟩
 have e : xC a b = 0 := by unfold xC; rw [hE, c0]; rfl
 obtain ⟨d1, d2⟩ := rp e
 obtain ⟨hA, hB⟩ := xN hE
 obtain ⟨a1, a2, a3⟩ := yY hA
 obtain ⟨b1, b2, b3⟩ := yY hB
 have a4 := sd hA
 have b4 := sd hB
 have hv := Hc b3 (beq_eq_false_iff_ne.1 c0)
 rw [d1, d2, e]
 refine ⟨a3, b3, zY.2 ⟨fun c => ?_, fun c => ?_⟩⟩
 ·rw [c]
  rw [Bool.and_eq_true] at c
  have x1 := Jc a3 c.1
  have x2 := Jc b3 c.2
  simp only [cond_true]
  obtain ⟨f1, f2, f3, f4⟩ := mw (a := zX a) (b := zX b) hv
  refine ⟨hv, ⟨by omega, by omega⟩, hv, zY.2 ⟨fun cc => ?_, fun cc => ?_⟩⟩
  ·obtain ⟨g1, g2⟩ := f1 cc
   rw [g1, g2]
   exact ⟨⟨by omega, by omega⟩, ⟨by omega, by omega⟩, ⟨by omega, by omega⟩, ⟨by omega, by omega⟩, rfl, ⟨rfl, rfl⟩, trivial⟩
  ·obtain ⟨g1, g2⟩ := f2 cc
   rw [g1, g2]
   exact ⟨⟨by omega, by omega⟩, ⟨by omega, by omega⟩, rfl, ⟨rfl, rfl⟩, trivial⟩
 have wa := Rf a3
 have wb := Rf b3
 have la := Ws a1
 have lb := Ws b1
 have hB0 : 0 < (zX b).natAbs := by omega
 have hdm := Nat.div_add_mod (zX a).natAbs (zX b).natAbs
 have hml := Nat.mod_lt (zX a).natAbs hB0
 have hdl : (zX a).natAbs / (zX b).natAbs ≤ (zX a).natAbs := Nat.div_le_self _ _
 have lb0 : (zT 1000000000 (zX b).natAbs).length ≠ 0 := fun e => by have := wz (b := 1000000000) (by omega) e; omega
 have lq := yz (b := 1000000000) (by omega) hdl
 have lr := yz (b := 1000000000) (by omega) (Nat.le_of_lt hml)
 rw [← wa, ← wb]
 rw [show (bif zJ a then -((zX a).natAbs : Int) else ((zX a).natAbs : Int)).natAbs = (zX a).natAbs from by rw [wa], show (bif zJ b then -((zX b).natAbs : Int) else ((zX b).natAbs : Int)).natAbs = (zX b).natAbs from by rw [wb]]
 clear wa wb e d1 d2 hv a1 b1 c
 generalize hAA : (zX a).natAbs = A at *
 generalize hBB : (zX b).natAbs = B at *
 generalize zJ a = m at *
 generalize zJ b = t at *
 have hdmI : (B : Int) * ((A / B : Nat) : Int) + ((A % B : Nat) : Int) = (A : Int) := by exact_mod_cast hdm
 generalize A / B = Q at *
 generalize A % B = R at *
 refine ⟨a3, by omega, b3, by omega, (Zg _).1, (Zg _).1, (Zg _).2, (Zg _).2, lb0, by omega, by omega, zY.2 ⟨fun cc => ?_, fun cc => ?_⟩⟩
 ·rw [Bool.and_eq_true, zq] at cc
  have hr0 : R ≠ 0 := fun e => by have := cc.2; rw [e, Z3] at this; exact absurd this (by decide)
  have hB2 : 2 * Q ≤ B * Q := Nat.mul_le_mul_right _ (by omega)
  have eq : ((Q : Int) + 1).toNat = Q + 1 := by omega
  have er : ((B : Int) - (R : Int)).toNat = B - R := by omega
  obtain ⟨g1, g2⟩ := mL m t (A := A) (B := B) (q := -((Q + 1 : Nat) : Int)) (r := ((B - R : Nat) : Int)) (by omega) (by
   rw [cc.1, cond_true, Int.mul_neg, Int.natCast_add, Int.mul_add]; omega) (by omega) (by omega)
  have lq2 := yz (b := 1000000000) (m := Q + 1) (n := A) (by omega) (by omega)
  have lr2 := yz (b := 1000000000) (m := B - R) (n := B) (by omega) (by omega)
  simp only [eq, er, WO]
  rw [g1, g2, cc.1, cond_true]
  obtain ⟨r1, r2⟩ := Zp (n := -((Q + 1 : Nat) : Int)) (k := 300) (by omega) (by omega) (by rw [Int.natAbs_neg, Int.natAbs_natCast]; omega)
  obtain ⟨r3, r4⟩ := Zp (n := bif t then -((B - R : Nat) : Int) else ((B - R : Nat) : Int)) (k := 300) (by omega) (by omega) (by cases t <;> simp only [cond_true, cond_false, Int.natAbs_neg, Int.natAbs_natCast] <;> omega)
  rw [r1, r2, r3, r4]
  have o1 : ZR 1000000000 [1] := .one (by omega) (by omega)
  refine ⟨(Zg _).1, o1, by omega, by simp, (Zg _).1, (Zg _).1, by omega, by omega, by omega, (Zg _).1, (Zg _).2, by omega, (Zg _).1, (Zg _).2, by omega, ?_⟩
  exact ⟨rfl, ⟨rfl, rfl⟩, trivial⟩
 ·have hq : Int.fdiv (bif m then -(A : Int) else (A : Int)) (bif t then -(B : Int) else (B : Int)) = (bif !(m == t) then -(Q : Int) else (Q : Int)) ∧
    Int.fmod (bif m then -(A : Int) else (A : Int)) (bif t then -(B : Int) else (B : Int)) = bif t then -(R : Int) else (R : Int) := by
   refine mL m t (by omega) ?_ (by omega) (by omega)
   cases hs : !(m == t) with
   | false => simp only [cond_false]; omega
   | true =>
    rw [hs, Bool.true_and] at cc
    have hr0 : R = 0 := by
     refine Decidable.byContradiction fun hn => ?_
     have h1 : (zT 1000000000 R).length ≠ 0 := fun e => hn (wz (b := 1000000000) (by omega) e)
     rw [(zq _ _).2 (by omega)] at cc
     cases cc
    rw [hr0] at hdmI ⊢
    simp only [cond_true, Int.mul_neg]
    omega
  obtain ⟨g1, g2⟩ := hq
  simp only [WO]
  rw [g1, g2]
  obtain ⟨r1, r2⟩ := Zp (n := bif !(m == t) then -(Q : Int) else (Q : Int)) (k := 300) (by omega) (by omega) (by cases !(m == t) <;> simp only [cond_true, cond_false, Int.natAbs_neg, Int.natAbs_natCast] <;> omega)
  obtain ⟨r3, r4⟩ := Zp (n := bif t then -(R : Int) else (R : Int)) (k := 300) (by omega) (by omega) (by cases t <;> simp only [cond_true, cond_false, Int.natAbs_neg, Int.natAbs_natCast] <;> omega)
  rw [r1, r2, r3, r4]
  exact ⟨(Zg _).1, (Zg _).2, by omega, (Zg _).1, (Zg _).2, by omega, rfl, ⟨rfl, rfl⟩, trivial⟩
theorem HD {G : List (Nat × Obj)} (hG : zO G) (a : List UInt8) (b : List UInt8) (hla : a.length ≤ 4294967280) (hlb : b.length ≤ 4294967280) : zv Tryz.prog G 104 [.str a, .str b] (.tup 3 (zw [.str (yP a b), .str (WQ a b), .i (xC a b)])) :=
 zW (T := gw G) (an := .auto) mixed (Xv hG) (Eq.mp (by kernel_rfl) (kZ G a b hla hlb))
theorem rB {G : List (Nat × Obj)} (hG : zO G) : zQ Tryz.prog G 104 V4 := by
 intro xs ps r h hp
 unfold V4 at h
 split at h
 ·skip
  rename_i a b
  cases h
  obtain ⟨q0, q1, -⟩ := ZT hp
  exact weaken (ys := [.str a, .str b]) ⟨zV _, zV _, trivial⟩ (HD hG a b q0 q1)
 ·cases h
structure Wv where
 x : Int
 y : Int
structure Vk where
 x : Nat
 y : Nat
def kQ (a b : zj) : yV :=
 .two .auto (.two .auto (.two (.two .auto (.two .auto (.two (.two (.one (.loop Wv (fun σ z => [(7, .i z.x), (8, .i z.y)]) (fun σ z => []) 0 (fun σ z => Nat.gcd z.x.natAbs z.y.natAbs = yh a b ∧ z.x.natAbs ≤ 1000000000000000000 ∧ z.y.natAbs ≤ 1000000000000000000) (fun σ z => z.y.natAbs) .auto)) .auto) .auto))) (.two .auto (.two (.one (.loop Vk (fun σ z => [(10, Zl (zT 1000000000 z.x)), (11, Zl (zT 1000000000 z.y))]) (fun σ z => []) 0 (fun σ z => Nat.gcd z.x z.y = yh a b ∧ (zT 1000000000 z.x).length ≤ 100000000 ∧ (zT 1000000000 z.y).length ≤ 100000000) (fun σ z => z.y) .auto)) .auto))))
def rz : List AV → Option (List zN × AV)
 | [.str a, .str b] => some ([.p (a.length ≤ 4294967280), .p (b.length ≤ 4294967280)], .tup 2 (zw [.str (bif zb a b != 0 then [] else Lib.itoa (yh a b : Int)), .i (zb a b)]))
 | _ => none
theorem kv (G : List (Nat × Obj)) (a : List UInt8) (b : List UInt8) (hla : a.length ≤ 4294967280) (hlb : b.length ≤ 4294967280) :
 let q2 := (zT 1000000000 (Int.natAbs (zX a))); let q3 := (zT 1000000000 (Int.natAbs (zX b))); zB [AV.str a, AV.str b] → lN a ≤ nM ∧ lN b ≤ nM ∧ zZ (zb a b != iZ) (j2 ∧ (True ∧ bA #[] = bif zb a b != iZ then [] else Lib.itoa (cI (yh a b))) ∧ kI ∧ zb a b = zb a b) (Zy a = true ∧ Zy b = true ∧ (18 : Int) = (18 : Int) ∧ zZ (leB (lZ a) (18 : Int) && leB (lZ b) (18 : Int)) ((∃ (z : Wv),
 ((Nat.gcd (Int.natAbs (Wv.x z)) (Int.natAbs (Wv.y z)) = yh a b ∧ Int.natAbs (Wv.x z) ≤ 1000000000000000000 ∧ Int.natAbs (Wv.y z) ≤ 1000000000000000000) ∧ (kI ∧ (bif leB (lZ a) (18 : Int) && leB (lZ b) (18 : Int) then zX a else iZ) = Wv.x z) ∧ kI ∧ (bif leB (lZ a) (18 : Int) && leB (lZ b) (18 : Int) then zX b else iZ) = Wv.y z) ∧ True) ∧ ∀ (z : Wv), let q1 := (if -Wv.x z > Wv.x z then -Wv.x z else Wv.x z); Nat.gcd (Int.natAbs (Wv.x z)) (Int.natAbs (Wv.y z)) =
 yh a b ∧ Int.natAbs (Wv.x z) ≤ 1000000000000000000 ∧ Int.natAbs (Wv.y z) ≤ 1000000000000000000 → zZ (Wv.y z != iZ) (bF (DB.db (Wv.y z ≠ iZ)) (∃ (z' : Wv), (((Nat.gcd (Int.natAbs (Wv.x z')) (Int.natAbs (Wv.y z')) = yh a b ∧ Int.natAbs (Wv.x z') ≤ 1000000000000000000 ∧ Int.natAbs (Wv.y z') ≤ 1000000000000000000) ∧ Int.natAbs (Wv.y z') < Int.natAbs (Wv.y z)) ∧ (kI ∧ Wv.y z = Wv.x z') ∧ kI ∧ Int.tmod (Wv.x z) (Wv.y z) = Wv.y z') ∧ True)) (bF (dK (-Wv.x z)) (((iN ≤ if -Wv.x z
 > Wv.x z then -Wv.x z else Wv.x z) ∧ q1 ≤ iX) ∧ j2 ∧ (True ∧ Lib.itoa q1 = bif zb a b != iZ then [] else Lib.itoa (cI (yh a b))) ∧ kI ∧ iZ = zb a b))) (Zy a = true ∧ lN a ≤ 100000000 ∧ Zy b = true ∧ lN b ≤ 100000000 ∧ (∃ (z : Vk), ((Nat.gcd (Vk.x z) (Vk.y z) = yh a b ∧ lN (zT 1000000000 (Vk.x z)) ≤ 100000000 ∧ lN (zT 1000000000 (Vk.y z)) ≤ 100000000) ∧ zi (AV.xl false 1 (lN q2) fun i j => aI (gD q2 i
 zR.dflt)) (xI (zT 1000000000 (Vk.x z))) ∧ (false = true → false = true) ∧ 1 = 1 ∧ lN (zT 1000000000 (Vk.y z)) = lN q3 ∧ ∀ (i j : Nat), i < lN q3 → j < 1 → kI ∧ gD q3 i zR.dflt = gD (zT 1000000000 (Vk.y z)) i zR.dflt) ∧ True) ∧ ∀ (z : Vk), let q4 := (lN (zT 1000000000 (Vk.y z))); let q6 := (lN (zT 1000000000 (Vk.x z))); let q5 := (AV.xl false 1 q6 fun i j => aI (List.getD
 (zT 1000000000 (Vk.x z)) i zR.dflt)); let q7 := (AV.xl false 1 q4 fun i j => aI (gD (zT 1000000000 (Vk.y z)) i zR.dflt)); let q8 := (zU q5); let q9 := (zU q7); let q10 := (zT 1000000000 (Int.toNat (zt iB q8) % Int.toNat (zt iB q9))); let q11 := (AV.agg 2 (zw [AV.v (Array.getD (Value.cells (Value.agg #[Value.bool false, Value.slice (Xd Addr) 0 0])) 0 undef), AV.xl false 1 q6 fun i j => aI (gD (zT 1000000000 (Vk.x z)) i zR.dflt)])); let q13 := (yR q11); let q12 := (Big.l q13);
 let q14 := (YY (Big.neg q13) q12); Nat.gcd (Vk.x z) (Vk.y z) = yh a b ∧ lN (zT 1000000000 (Vk.x z)) ≤ 100000000 ∧ lN (zT 1000000000 (Vk.y z)) ≤ 100000000 → zZ (zM iZ (cI q4)) (bF (ze Int q5) (bF (ze Int q7) ((∀ (x : Int), List.Mem x q8 → iZ ≤ x ∧ x < iB) ∧ (∀ (x : Int), List.Mem x q9 → iZ ≤ x ∧ x < iB) ∧ zf q8 = zU q5 ∧ zf q9 = zU q7 ∧ lN q9 ≠ 0 ∧ lN q8 ≤ 100000000 ∧ lN q9 ≤ 100000000 ∧ ∃ (z' : Vk), (((Nat.gcd (Vk.x z') (Vk.y z') = yh a b ∧
 lN (zT 1000000000 (Vk.x z')) ≤ 100000000 ∧ lN (zT 1000000000 (Vk.y z')) ≤ 100000000) ∧ Vk.y z' < Vk.y z) ∧ zi q7 (xI (zT 1000000000 (Vk.x z'))) ∧ (false = true → false = true) ∧ 1 = 1 ∧ lN (zT 1000000000 (Vk.y z')) = lN q10 ∧ ∀ (i j : Nat), i < lN q10 → j < 1 → kI ∧ gD q10 i zR.dflt = gD (zT 1000000000 (Vk.y z')) i zR.dflt) ∧ True))) (bF (yo Big q11) ((∀ (x : Int),
 List.Mem x q12 → iZ ≤ x ∧ x < iB) ∧ zf q12 = Big.l q13 ∧ lN q12 ≤ 100000000 ∧ j2 ∧ (True ∧ Yg q14 = bif zb a b != iZ then [] else Lib.itoa (cI (yh a b))) ∧ kI ∧ ZN q14 = zb a b)))) := by
 delta bF dK bA xI nM cI kI j2 lZ lN gD iZ iX iN iB aI
 dsimp only
 intro hb
 have e0 : (zR.dflt : Int) = 0 := rfl
 simp only [↓Zf, ↓Zu, row_one]
 simp only [sS, dS, e0, Xi, xr, Xy, xY, wC, Xl, wM, Xk, X6, kz, xD, Kz, MU, QO]
 refine ⟨by omega, by omega, fun hE => ⟨rfl, by rw [bne_iff_ne.2 hE]; rfl⟩, fun hE => ?_⟩
 obtain ⟨hA, hB⟩ := xN hE
 obtain ⟨a1, a2, a3⟩ := yY hA
 obtain ⟨b1, b2, b3⟩ := yY hB
 have la := Ws a1
 have lb := Ws b1
 have gl : yh a b ≤ (zX a).natAbs + (zX b).natAbs := by
  unfold yh
  by_cases h : (zX a).natAbs = 0
  ·rw [h, Nat.gcd_zero_left]; omega
  ·exact Nat.le_trans (Nat.le_of_dvd (by omega) (Nat.gcd_dvd_left _ _)) (by omega)
 have a4 := sd hA
 have b4 := sd hB
 have gl3 : yh a b < 10 ^ 300 := by
  unfold yh
  by_cases h : (zX a).natAbs = 0
  ·rw [h, Nat.gcd_zero_left]; exact b4
  ·exact Nat.lt_of_le_of_lt (Nat.le_of_dvd (by omega) (Nat.gcd_dvd_left _ _)) a4
 rw [hE]
 simp only [bne_self_eq_false, cond_false]
 refine ⟨a3, b3, zY.2 ⟨fun c => ?_, fun c => ?_⟩⟩
 ·rw [c]
  rw [Bool.and_eq_true] at c
  have x1 := Jc a3 c.1
  have x2 := Jc b3 c.2
  simp only [cond_true]
  refine ⟨⟨⟨zX a, zX b⟩, ⟨rfl, by simp only; omega, by simp only; omega⟩, rfl, rfl⟩, fun z ⟨z1, z2, z3⟩ => ⟨fun hy => ⟨hy, ⟨z.y, z.x.tmod z.y⟩, ⟨⟨?_, z3, ?_⟩, ?_⟩, rfl, rfl⟩, fun hy => ?_⟩⟩
  ·rw [Int.natAbs_tmod, ← Ts (y := z.y.natAbs) (by omega), z1]
  ·rw [Int.natAbs_tmod]
   have : z.x.natAbs % z.y.natAbs ≤ z.x.natAbs := Nat.mod_le _ _
   omega
  ·rw [Int.natAbs_tmod]
   exact Nat.mod_lt _ (by omega)
  ·rw [hy, Int.natAbs_zero, Nat.gcd_zero_right] at z1
   rw [Pj, z1]
   rw [z1] at z2
   exact ⟨⟨by omega, by omega⟩, ⟨by omega, by omega⟩, rfl, rfl, trivial⟩
 ·refine ⟨a3, by omega, b3, by omega, ⟨⟨(zX a).natAbs, (zX b).natAbs⟩, ⟨rfl, by simp only; omega, by simp only; omega⟩, zV _, fun h => h, rfl, fun _ _ _ _ => rfl⟩, fun z ⟨z1, z2, z3⟩ => ⟨fun hy => ?_, fun hy => ?_⟩⟩
  ·have hy0 : z.y ≠ 0 := fun e => by rw [e, Z3] at hy; exact absurd hy (by decide)
   have hm : z.x % z.y < z.y := Nat.mod_lt _ (by omega)
   have hlen := yz (b := 1000000000) (m := z.x % z.y) (n := z.y) (by omega) (by omega)
   exact ⟨(Zg _).1, (Zg _).1, (Zg _).2, (Zg _).2, by omega, z2, z3, ⟨z.y, z.x % z.y⟩, ⟨⟨by rw [← Ts hy0]; exact z1, z3, by simp only; omega⟩, hm⟩, zV _, fun h => h, rfl, fun _ _ _ _ => rfl⟩
  ·have hy0 := wz (b := 1000000000) (n := z.y) (by omega) (by omega)
   rw [hy0, Nat.gcd_zero_right] at z1
   rw [WO, cond_false, z1]
   rw [z1] at z2
   obtain ⟨r1, r2⟩ := Zp (n := (yh a b : Int)) (k := 300) (by omega) (by omega) (by rw [Int.natAbs_natCast]; exact gl3)
   rw [r1, r2]
   exact ⟨(Zg _).1, (Zg _).2, z2, rfl, rfl, rfl⟩
theorem HT {G : List (Nat × Obj)} (hG : zO G) (a : List UInt8) (b : List UInt8) (hla : a.length ≤ 4294967280) (hlb : b.length ≤ 4294967280) : zv Tryz.prog G 84 [.str a, .str b] (.tup 2 (zw [.str (bif zb a b != 0 then [] else Lib.itoa (yh a b : Int)), .i (zb a b)])) :=
 zW (T := gw G) (an := kQ a b) mixed (Xv hG) (Eq.mp (by kernel_rfl) (kv G a b hla hlb))
theorem MM {G : List (Nat × Obj)} (hG : zO G) : zQ Tryz.prog G 84 rz := by
 intro xs ps r h hp
 unfold rz at h
 split at h
 ·skip
  rename_i a b
  cases h
  obtain ⟨q0, q1, -⟩ := ZT hp
  exact weaken (ys := [.str a, .str b]) ⟨zV _, zV _, trivial⟩ (HT hG a b q0 q1)
 ·cases h
end Go.Te

namespace Go.Te
open Go Go.Sx Go.Proofs Go.Ar
set_option maxRecDepth 100000
set_option maxHeartbeats 4000000
def Z1 (a : zj) : zj := bif zg a then z6 a else [49]
theorem Ym (n : Int) : ZU (Lib.itoa n) = ZN n := by
 obtain ⟨h1, h2⟩ := za n
 have h3 := wo h1
 rw [h2] at h3
 unfold ZU ZN
 rw [h1, h3]
 rfl
theorem N3 {a : zj} (h : zH a = 0) : ZU (zm a) = 0 ∧ ZU (Z1 a) = 0 ∧ zX (zm a) = zL a ∧ zX (Z1 a) = (zo a : Int) := by
 obtain ⟨h1, h2, h3, _⟩ := Zr.1 h
 have hi : Zy (zm a) = true := by
  unfold ZO at h1
  rw [Bool.and_eq_true] at h1
  exact h1.1
 refine ⟨yq.2 ⟨hi, h2⟩, ?_, rfl, ?_⟩
 all_goals
  unfold Z1
  cases hs : zg a with
  | false =>
   first
    | (show ZU [49] = 0; exact yq.2 (by decide))
    | (unfold zo; rw [hs]; show zX [49] = ((1 : Nat) : Int); decide)
  | true =>
   unfold ZO at h1
   rw [hs] at h1
   have hd : Z6 (z6 a) = true := by
    revert h1
    cases Z6 (z6 a) <;> simp
   obtain ⟨i1, i2⟩ := WS hd
   first
    | exact yq.2 ⟨i1, Nat.le_trans (wK _).1 h3⟩
    | (unfold zo; rw [hs]; exact i2)
theorem Ig (s : zj) : s.length ≤ (zp s).length + 1 := by
 unfold zp
 cases zJ s with
 | true => rw [cond_true, List.length_drop]; omega
 | false => rw [cond_false]; omega
theorem SC (g : Nat) : (Lib.itoa (g : Int) == [49]) = Nat.beq g 1 := by
 rw [Go.Ar.Z0, Bool.eq_iff_iff, beq_iff_eq, Nat.beq_eq]
 constructor
 ·intro h
  have := congrArg zc h
  rw [yZ] at this
  exact this
 ·intro h
  rw [h, ZZ (by decide)]; rfl
theorem Ep {a b : zj} (ha : zH a = 0) (hb : zH b = 0) : Yi (fun x1 x2 => x1 * x2) (zm a) (Z1 b) = ZN (zL a * (zo b : Int)) ∧ Z5 (fun x1 x2 => x1 * x2) (zm a) (Z1 b) = Yg (zL a * (zo b : Int)) := by
 obtain ⟨a1, a2, a3, a4⟩ := N3 ha
 obtain ⟨b1, b2, b3, b4⟩ := N3 hb
 have hE : zb (zm a) (Z1 b) = 0 := by unfold zb; rw [a1, b2]; rfl
 obtain ⟨e1, e2⟩ := uf (f := fun x1 x2 => x1 * x2) hE
 rw [a3, b4] at e1 e2
 exact ⟨e2, e1⟩
theorem K9 {n m : Int} (hn : ZN n = 0) (hm : ZN m = 0) : Yy (Yg n) (Yg m) = Yh n m ∧ zb (Yg n) (Yg m) = 0 ∧ (Yg n).length ≤ 4294967280 ∧ (Yg m).length ≤ 4294967280 := by
 have e : ∀ k, ZN k = 0 → Yg k = Lib.itoa k := fun k h => by unfold Yg; rw [h]; rfl
 have l : ∀ k, ZN k = 0 → (Lib.itoa k).length ≤ 4294967280 := fun k h => by
  rw [XK]
  have : ¬ 300 < Xu k := fun e => by unfold ZN at h; rw [(Zx _ _).2 e] at h; cases h
  split <;> omega
 rw [e n hn, e m hm]
 have hE : zb (Lib.itoa n) (Lib.itoa m) = 0 := by
  unfold zb
  rw [Ym, hn, Ym, hm]
  rfl
 refine ⟨?_, hE, l n hn, l m hm⟩
 unfold Yy
 rw [hE, (za n).2, (za m).2]
 rfl
theorem yk {a : zj} (h : zC a = true) : zH a = 0 ∧ (zL a).natAbs ≤ 99999999 ∧ zo a ≤ 99999999 := by
 obtain ⟨h1, h2, h3, h4⟩ := wZ.1 h
 obtain ⟨g1, g2, g3⟩ := xE.1 h1
 have hr : zH a = 0 := by
  unfold zC at h
  rw [Bool.and_eq_true, Bool.and_eq_true, beq_iff_eq] at h
  exact h.1.1
 have b := vH g1 (k := 8) h2
 rw [show 10 ^ 8 = 100000000 from by decide] at b
 refine ⟨hr, by rw [Ug]; omega, ?_⟩
 rw [(rG (a := a)).2]
 cases hs : zg (zp a) with
 | false => show 1 ≤ 99999999; decide
 | true =>
  have b := vH (g3 hs).1 (k := 8) h3
  rw [show 10 ^ 8 = 100000000 from by decide] at b
  simp only [cond_true]
  omega
noncomputable def EW (G : List (Nat × Obj)) : Tb := ((((Xz G).plus 82 Pg).plus 30 v7).plus 83 (Yq fun s => .str (zp s))).plus 84 rz
theorem Nn {G : List (Nat × Obj)} (hG : zO G) : zz Tryz.prog (EW G) := zz.plus (zz.plus (zz.plus (zz.plus zr (zQ.mono IC)) (zQ.mono Uk)) (zQ.mono W1)) (MM hG)
def XE : List AV → Option (List zN × AV)
 | [.str a] => some ([.p (a.length ≤ 9223372036854775807)], .tup 2 (zw [.agg 2 (zw [.str (bif zH a == 0 then zm a else []), .str (bif zH a == 0 then Z1 a else [])]), .i (zH a)]))
 | _ => none
theorem Mz (G : List (Nat × Obj)) (a : List UInt8) (hl : a.length ≤ 9223372036854775807) :
 let q2 := (True ∧ 2 = 2 ∧ (bA #[] = bif zH a == iZ then zm a else []) ∧ bA #[] = bif zH a == iZ then Z1 a else []); let q1 := (j2 ∧ q2 ∧ kI ∧ (11 : Int) = zH a); let q4 := (bif ZO a then bif zg a then z6 a else [(49 : UInt8)] else []); let q3 := (j2 ∧ (True ∧ 2 = 2 ∧ ((bif ZO a then zm a else []) = bif zH a == iZ then zm a else []) ∧ q4 = bif zH a == iZ then Z1 a else []) ∧
 kI ∧ iZ = zH a); let q7 := (lZ (zp (bif ZO a then zm a else []))); let q6 := (zM (300 : Int) q7); let q5 := (!zS false q6 || zS false q6); let q8 := (ByteArray.data (ByteArray.mk #[(49 : UInt8)])); let q9 := (zb (bif ZO a then zm a else []) q4 != iZ); zB [AV.str a] → lN a ≤ nX ∧ zZ (!ZO a) q1 (lN a ≤ nX ∧ zZ (zC a) q3 (bF q5 (bF q5 (bF q5 (bF (!!zM (300 : Int) q7 || zS false q6) (zZ (bif zM (300 : Int) q7 then true else zM (300 : Int)
 (lZ q4)) (j2 ∧ q2 ∧ kI ∧ (4 : Int) = zH a) (zZ (q4 == Array.toList q8) q3 (lN (bif ZO a then zm a else []) ≤ nM ∧ lN q4 ≤ nM ∧ bF (!zS false q9 || zS false q9) (bF (!!zb (bif ZO a then zm a else []) q4 != iZ || zS false q9) (zZ (bif zb (bif ZO a then zm a else []) q4 != iZ then true else !(bif zb (bif ZO a then zm a else []) q4 != iZ then [] else Lib.itoa (cI (yh (bif ZO a then zm a else []) q4))) == Array.toList
 q8) q1 q3)))))))))) := by
 delta bF bA nX nM cI kI j2 lZ lN iZ
 dsimp only
 intro hb
 simp only [sS, dS, xJ]
 have hFO := X8 a
 have hden : (bif zg a then z6 a else [49]) = Z1 a := rfl
 obtain ⟨o1, o2, o3, o4, o5, o6, o7⟩ := Y1 a
 refine ⟨hl, zY.2 ⟨fun c => ?_, fun c => ?_⟩⟩
 ·have c : ZO a = false := by simpa using c
  rw [c] at hFO
  rw [RE hFO.symm]
  exact ⟨rfl, ⟨rfl, rfl⟩, rfl⟩
 have c : ZO a = true := by simpa using c
 have hFO' : WF a = true := hFO.symm.trans c
 simp only [c, cond_true, hden]
 have fin : zH a = 0 → 2 = [AV.junk, AV.junk].length ∧ ((zm a = bif zH a == 0 then zm a else []) ∧ Z1 a = bif zH a == 0 then Z1 a else []) ∧ 0 = zH a := fun h => by rw [h]; exact ⟨rfl, ⟨rfl, rfl⟩, rfl⟩
 have bad : ∀ e : Int, e ≠ 0 → zH a = e → 2 = [AV.junk, AV.junk].length ∧ (([] = bif zH a == 0 then zm a else []) ∧ [] = bif zH a == 0 then Z1 a else []) ∧ e = zH a := fun e h0 h => by
  rw [h, beq_eq_false_iff_ne.2 h0]; exact ⟨rfl, ⟨rfl, rfl⟩, rfl⟩
 have hlen : (zp (zm a)).length = (zm (zp a)).length := by rw [← (Sd (zm a)).2, o5]
 have hcd := Vq a
 have hdd := qc a
 refine ⟨hl, zY.2 ⟨fun k => fin (yk k).1, fun k => zY.2 ⟨fun k2 => bad 4 (by decide) (On hFO' ?_), fun k2 => zY.2 ⟨fun k3 => ?_, fun k3 => ?_⟩⟩⟩⟩
 ·rw [Bool.or_eq_true, zq, zq, hlen] at k2
  rcases k2 with k2 | k2
  ·exact .inl (by omega)
  ·refine .inr ?_
   rw [← o2]
   unfold Z1 at k2
   cases hs : zg a with
   | true => rw [hs, cond_true] at k2; omega
   | false => rw [hs, cond_false] at k2; exact absurd k2 (by decide)
 ·have hs : zg a = false := by
   cases hs : zg a with
   | false => rfl
   | true =>
    unfold Z1 at k3
    rw [hs, cond_true] at k3
    have := (xE.1 hFO').2.2 (by rw [← o3]; exact hs)
    rw [← o2] at this
    exact absurd (eq_of_beq k3) this.2.2
  rw [Bool.or_eq_false_iff, Bool.eq_false_iff, Ne, zq, hlen] at k2
  exact fin (qe hFO' (by omega) (by rw [← o3]; exact hs))
 ·have hs : zg a = true := by
   cases hs : zg a with
   | true => rfl
   | false => unfold Z1 at k3; rw [hs] at k3; cases k3
  have hdS : Z1 a = z6 a := by unfold Z1; rw [hs]; rfl
  rw [hdS] at k2 bad fin ⊢
  rw [Bool.or_eq_false_iff, Bool.eq_false_iff, Bool.eq_false_iff, Ne, Ne, zq, zq, hlen] at k2
  have e2 := Tp hFO' ⟨by omega, by rw [← o2]; omega⟩ (by rw [← o3]; exact hs)
  have g := (xE.1 hFO').2.2 (by rw [← o3]; exact hs)
  rw [← o2] at g e2
  obtain ⟨i1, i2⟩ := WS g.1
  have hi : Zy (zm a) = true := by
   have := c
   unfold ZO at this
   rw [Bool.and_eq_true] at this
   exact this.1
  have hE : zb (zm a) (z6 a) = 0 := by
   have l2 := (wK (z6 a)).1
   have q1 : ZU (zm a) = 0 := yq.2 ⟨hi, by rw [o5]; omega⟩
   have q2 : ZU (z6 a) = 0 := yq.2 ⟨i1, by omega⟩
   unfold zb
   rw [q1, q2]; rfl
  have hg : yh (zm a) (z6 a) = Nat.gcd (zc (zm (zp a))) (zc (z6 a)) := by
   unfold yh
   rw [i2, Int.natAbs_natCast, ← Ug]
   rfl
  have hge := Ig (zm a)
  rw [hE]
  simp only [bne_self_eq_false, cond_false, Bool.false_or, SC, hg]
  refine ⟨by omega, by omega, zY.2 ⟨fun k4 => bad 11 (by decide) ?_, fun k4 => ?_⟩⟩
  ·rw [e2, show Nat.beq (Nat.gcd (zc (zm (zp a))) (zc (z6 a))) 1 = false by rw [Bool.not_eq_true'] at k4; exact k4]; rfl
  ·exact fin (by rw [e2, show Nat.beq (Nat.gcd (zc (zm (zp a))) (zc (z6 a))) 1 = true by rw [Bool.not_eq_false'] at k4; exact k4]; rfl)
theorem jU {G : List (Nat × Obj)} (hG : zO G) (a : List UInt8) (hl : a.length ≤ 9223372036854775807) : zv Tryz.prog G 32 [.str a] (.tup 2 (zw [.agg 2 (zw [.str (bif zH a == 0 then zm a else []), .str (bif zH a == 0 then Z1 a else [])]), .i (zH a)])) :=
 zW (T := EW G) (an := .auto) mixed (Nn hG) (Eq.mp (by kernel_rfl) (Mz G a hl))
theorem vT {G : List (Nat × Obj)} (hG : zO G) : zQ Tryz.prog G 32 XE := by
 intro xs ps r h hp
 unfold XE at h
 split at h
 ·skip
  rename_i a
  cases h
  obtain ⟨q0, -⟩ := ZT hp
  exact weaken (ys := [.str a]) ⟨zV _, trivial⟩ (jU hG a q0)
 ·cases h
theorem jo (G : List (Nat × Obj)) (a : List UInt8) (hl : a.length ≤ 9223372036854775807) :
 zB [AV.str a] → lN a ≤ nX ∧ kI ∧ zH a = zH a := by
 delta nX kI lN
 intro hb
 simp only [sS, dS, xJ]
 exact hl
theorem ip {G : List (Nat × Obj)} (hG : zO G) (a : List UInt8) (hl : a.length ≤ 9223372036854775807) : zv Tryz.prog G 29 [.str a] (.i (zH a)) :=
 zW (T := (Xz G).plus 32 XE) (an := .auto) mixed (zz.plus zr (vT hG)) (Eq.mp (by kernel_rfl) (jo G a hl))
def Vt (a b : zj) : Int := bif zH a != 0 then zH a else bif zH b != 0 then zH b else bif ZN (zL a * (zo b : Int)) != 0 then ZN (zL a * (zo b : Int)) else ZN (zL b * (zo a : Int))
def QS (a b : zj) : Int := bif Vt a b == 0 then Yh (zL a * (zo b : Int)) (zL b * (zo a : Int)) else 0
noncomputable def Gx (G : List (Nat × Obj)) : Tb := (((((Xz G).plus 32 XE).plus 30 v7).plus 43 Wc).plus 34 rt).plus 31 uR
theorem PV {G : List (Nat × Obj)} (hG : zO G) : zz Tryz.prog (Gx G) := zz.plus (zz.plus (zz.plus (zz.plus (zz.plus zr (vT hG)) (zQ.mono Uk)) (uu hG)) (M6 hG)) (zQ.mono RX)
noncomputable def ES (G : List (Nat × Obj)) : Tb := (Gx G).body Tryz.prog [(33, .auto)]
theorem Oi {G : List (Nat × Obj)} (hG : zO G) : zz Tryz.prog (ES G) := zz.body mixed (PV hG) _
theorem jC (G : List (Nat × Obj)) (a : List UInt8) (b : List UInt8) (hla : a.length ≤ 9223372036854775807) (hlb : b.length ≤ 9223372036854775807) :
 let q1 := ((bif zC a then zL a else iZ) * bif zC b then (cI (zo b)) else iZ); let q2 := ((bif zC b then zL b else iZ) * bif zC a then (cI (zo a)) else iZ); let q4 := (True ∧ kI ∧ iZ = QS a b); let q5 := (bif zH a == iZ then zm a else []); let q6 := (bif zH b == iZ then Z1 b else []); let q7 := (Yi (fun (x1 x2 : Int) => x1 * x2) q5 q6 != iZ); let q8 := (bA #[]); let q9 := (bif zH b == iZ then zm b else []); let q10 := (bif zH a == (0 :
 Int) then Z1 a else []); let q11 := (Z5 (fun (x1 x2 : Int) => x1 * x2) q5 q6); let q12 := (Z5 (fun (x1 x2 : Int) => x1 * x2) q9 q10); let q3 := (lN a ≤ nX ∧ zZ (zH a != iZ) (j2 ∧ q4 ∧ kI ∧ zH a = Vt a b) (lN b ≤ nX ∧ zZ (zH b != iZ) (j2 ∧ q4 ∧ kI ∧ zH b = Vt a b) (lN q5 ≤ nM ∧ lN q6 ≤ nM ∧ zZ q7 (zZ q7 (j2 ∧ q4 ∧ kI ∧ Yi
 (fun (x1 x2 : Int) => x1 * x2) q5 q6 = Vt a b) (0 ≤ nM ∧ 0 ≤ nM ∧ j2 ∧ (True ∧ kI ∧ Yy q8 q8 = QS a b) ∧ kI ∧ zb q8 q8 = Vt a b)) (lN q9 ≤ nM ∧ lN q10 ≤ nM ∧ zZ (Yi (fun (x1 x2 : Int) => x1 * x2) q9 q10 != iZ) (j2 ∧ q4 ∧ kI ∧ Yi (fun (x1 x2 : Int) => x1 * x2) q9 q10 = Vt a b) (lN q11 ≤ nM ∧ lN q12 ≤ nM ∧ j2 ∧ (True ∧ kI ∧ Yy q11
 q12 = QS a b) ∧ kI ∧ zb q11 q12 = Vt a b))))); zB [AV.str a, AV.str b] → lN a ≤ nX ∧ zZ (zC a) (lN b ≤ nX ∧ zZ (zC b) (bF (dK q1) (bF (dK q2) (j2 ∧ (True ∧ kI ∧ Yh q1 q2 = QS a b) ∧ kI ∧ iZ = Vt a b))) q3) q3 := by
 delta bF dK bA nX nM cI kI j2 lN iZ
 dsimp only
 intro hb
 simp only [sS, dS, xJ]
 have ncd := Vq a
 have ncb := Vq b
 have dl : ∀ a : zj, zH a = 0 → (Z1 a).length ≤ 301 := fun a h => by have := (Zr.1 h).2.2.1; unfold Z1; cases zg a <;> simp <;> omega
 have eA : zH a ≠ 0 → 0 = QS a b ∧ zH a = Vt a b := fun h => by
  have e : Vt a b = zH a := by unfold Vt; rw [bne_iff_ne.2 h]; rfl
  unfold QS
  rw [e, beq_eq_false_iff_ne.2 h]
  exact ⟨rfl, rfl⟩
 have eB : zH a = 0 → zH b ≠ 0 → 0 = QS a b ∧ zH b = Vt a b := fun h0 h => by
  have e : Vt a b = zH b := by unfold Vt; rw [h0, bne_iff_ne.2 h]; rfl
  unfold QS
  rw [e, beq_eq_false_iff_ne.2 h]
  exact ⟨rfl, rfl⟩
 have eC : zH a = 0 → zH b = 0 → ZN (zL a * (zo b : Int)) ≠ 0 → 0 = QS a b ∧ ZN (zL a * (zo b : Int)) = Vt a b := fun h0 h1 h => by
  have e : Vt a b = ZN (zL a * (zo b : Int)) := by unfold Vt; rw [h0, h1, bne_iff_ne.2 h]; rfl
  unfold QS
  rw [e, beq_eq_false_iff_ne.2 h]
  exact ⟨rfl, rfl⟩
 have eD : zH a = 0 → zH b = 0 → ZN (zL a * (zo b : Int)) = 0 → Vt a b = ZN (zL b * (zo a : Int)) := fun h0 h1 h => by
  unfold Vt; rw [h0, h1, h]; rfl
 have big : zH a = 0 → zH b = 0 → _ := fun h0 h1 => And.intro (Ep h0 h1) (Ep h1 h0)
 refine ⟨hla, zY.2 ⟨fun c => ⟨hlb, zY.2 ⟨fun c2 => ?_, fun c2 => ?_⟩⟩, fun c => ?_⟩⟩
 ·obtain ⟨a1, a2, a3⟩ := yk c
  obtain ⟨b1, b2, b3⟩ := yk c2
  rw [c, c2]
  simp only [cond_true]
  have m1 : (zL a * (zo b : Int)).natAbs ≤ 99999999 * 99999999 := by rw [Int.natAbs_mul, Int.natAbs_natCast]; exact Nat.mul_le_mul a2 b3
  have m2 : (zL b * (zo a : Int)).natAbs ≤ 99999999 * 99999999 := by rw [Int.natAbs_mul, Int.natAbs_natCast]; exact Nat.mul_le_mul b2 a3
  obtain ⟨r1, r2⟩ := Zp (n := zL a * (zo b : Int)) (k := 20) (by omega) (by omega) (by omega)
  obtain ⟨r3, r4⟩ := Zp (n := zL b * (zo a : Int)) (k := 20) (by omega) (by omega) (by omega)
  have e := eD a1 b1 r2
  rw [r4] at e
  unfold QS
  rw [e]
  exact ⟨⟨by omega, by omega⟩, ⟨by omega, by omega⟩, rfl, rfl, rfl⟩
 all_goals
  refine ⟨hla, fun h => ⟨rfl, eA h⟩, fun h0 => ⟨hlb, fun h => ⟨rfl, eB h0 h⟩, fun h1 => ?_⟩⟩
  obtain ⟨⟨p1, p2⟩, p3, p4⟩ := big h0 h1
  have dla := dl a h0
  have dlb := dl b h1
  have nla := (Zr.1 h0).2.1
  have nlb := (Zr.1 h1).2.1
  have ll1 := (wK (zm a)).2
  have ll2 := (wK (zm b)).2
  rw [h0, h1]
  simp only [beq_self_eq_true, cond_true, p1, p2, p3, p4]
  refine ⟨by omega, by omega, fun h => ⟨fun _ => ⟨rfl, eC h0 h1 h⟩, fun h2 => absurd h2 h⟩, fun h => ⟨by omega, by omega, fun h2 => ?_, fun h2 => ?_⟩⟩
  ·have e := eD h0 h1 h
   unfold QS
   rw [e, beq_eq_false_iff_ne.2 h2]
   exact ⟨rfl, rfl, rfl⟩
  ·have e := eD h0 h1 h
   rw [h2] at e
   obtain ⟨q1, q2, q3, q4⟩ := K9 h h2
   unfold QS
   rw [e, q1, q2]
   exact ⟨q3, q4, rfl, rfl, rfl⟩
theorem ij {G : List (Nat × Obj)} (hG : zO G) (a : List UInt8) (b : List UInt8) (hla : a.length ≤ 9223372036854775807) (hlb : b.length ≤ 9223372036854775807) : zv Tryz.prog G 12 [.str a, .str b] (.tup 2 (zw [.i (QS a b), .i (Vt a b)])) :=
 zW (T := ES G) (an := .auto) mixed (Oi hG) (Eq.mp (by kernel_rfl) (jC G a b hla hlb))
end Go.Te

namespace Go.Te
open Go Go.Sx Go.Proofs Go.Ar
set_option maxRecDepth 100000
set_option maxHeartbeats 4000000
structure Nt where
 n : Int
 d : Int
instance : zR Nt := ⟨2, ⟨0, 0⟩, fun c => zw [.i c.n, .i c.d], fun cs => ⟨AV.int (cs 0), AV.int (cs 1)⟩, fun cs => Z4 (cs 0) && Z4 (cs 1), fun cs h j hj => by
 simp only [Bool.and_eq_true] at h
 match j, hj with
 | 0, _ => exact Zj (XI h.1)
 | 1, _ => exact Zj (XI h.2)⟩
instance : YR Nt := ⟨fun _ => rfl, fun _ => rfl⟩
def xw (n d : Int) : zj := bif zM d 0 then ZI (-n) (-d).toNat else ZI n d.toNat
theorem m7 (n : Int) {d : Int} (hd : 0 < d) : Wo (if -n > n then -n else n) d = (Nat.gcd n.natAbs d.toNat : Int) := by
 have e : (if -n > n then -n else n) = (n.natAbs : Int) := by split <;> omega
 unfold Wo
 rw [e, (z8 _ _).2 (show (0 : Int) ≤ (n.natAbs : Int) by omega), (z8 _ _).2 (show 0 ≤ d by omega), Int.toNat_natCast]
 rfl
theorem Ox (n : Int) {d : Int} (hd : 0 < d) : (0 : Int) < (Nat.gcd n.natAbs d.toNat : Int) ∧ n.tdiv (Nat.gcd n.natAbs d.toNat : Int) = n / (Nat.gcd n.natAbs d.toNat : Int) ∧ d.tdiv (Nat.gcd n.natAbs d.toNat : Int) = ((d.toNat / Nat.gcd n.natAbs d.toNat : Nat) : Int) ∧ (n / (Nat.gcd n.natAbs d.toNat : Int)).natAbs ≤ n.natAbs ∧ 0 < d.toNat / Nat.gcd n.natAbs d.toNat ∧ d.toNat / Nat.gcd n.natAbs d.toNat ≤ d.toNat := by
 have hg : 0 < Nat.gcd n.natAbs d.toNat := Nat.gcd_pos_of_pos_right _ (by omega)
 have hdv := Nat.gcd_dvd_right n.natAbs d.toNat
 have hnv : ((Nat.gcd n.natAbs d.toNat : Nat) : Int) ∣ n := Int.ofNat_dvd_left.2 (Nat.gcd_dvd_left _ _)
 generalize Nat.gcd n.natAbs d.toNat = g at *
 have e1 : n.tdiv (g : Int) = n / (g : Int) := Int.tdiv_eq_ediv_of_dvd hnv
 refine ⟨by omega, e1, ?_, ?_, Nat.div_pos (Nat.le_of_dvd (by omega) hdv) hg, Nat.div_le_self _ _⟩
 ·rw [Int.tdiv_eq_ediv_of_nonneg (by omega), Int.natCast_ediv]
  congr 1
  omega
 ·rw [← e1]; exact Int.natAbs_tdiv_le_natAbs n g
theorem R2 (n : Int) (d : Nat) : (d / Nat.gcd n.natAbs d = 1 → Lib.itoa (n / (Nat.gcd n.natAbs d : Int)) = ZI n d) ∧ (d / Nat.gcd n.natAbs d ≠ 1 → Lib.itoa (n / (Nat.gcd n.natAbs d : Int)) ++ [47] ++ Lib.itoa ((d / Nat.gcd n.natAbs d : Nat) : Int) = ZI n d) := by
 unfold ZI YP
 refine ⟨fun h => ?_, fun h => ?_⟩
 ·rw [h]
  exact (List.append_nil _).symm
 ·rw [show Nat.beq (d / Nat.gcd n.natAbs d) 1 = false from Bool.eq_false_iff.2 fun e => h (Nat.eq_of_beq_eq_true e), Go.Ar.Z0]
  simp
theorem oP {n : Int} (h : n.natAbs < 10 ^ 20) : (Lib.itoa n).length ≤ 21 := by
 rw [XK]
 have : Xu n ≤ 20 := x5 (by omega) h
 split <;> omega
def Rv : List AV → Option (List zN × AV)
 | [.agg 2 p_x] => some ([.b (Z4 (p_x 0) && Z4 (p_x 1)), .p ((⟨AV.int (p_x 0), AV.int (p_x 1)⟩ : Nt).d ≠ 0), .p (-1000000000000000000 ≤ (⟨AV.int (p_x 0), AV.int (p_x 1)⟩ : Nt).d ∧ (⟨AV.int (p_x 0), AV.int (p_x 1)⟩ : Nt).d ≤ 1000000000000000000), .p (-1000000000000000000 ≤ (⟨AV.int (p_x 0), AV.int (p_x 1)⟩ : Nt).n ∧ (⟨AV.int (p_x 0), AV.int (p_x 1)⟩ : Nt).n ≤ 1000000000000000000)], .str (xw (⟨AV.int (p_x 0), AV.int (p_x 1)⟩ : Nt).n (⟨AV.int (p_x 0), AV.int (p_x 1)⟩ : Nt).d))
 | _ => none
theorem K2 (G : List (Nat × Obj)) (x : Nt) (h0 : x.d ≠ 0) (h1 : -1000000000000000000 ≤ x.d ∧ x.d ≤ 1000000000000000000) (h2 : -1000000000000000000 ≤ x.n ∧ x.n ≤ 1000000000000000000) :
 let q1 := (if - -Nt.n x > -Nt.n x then - -Nt.n x else -Nt.n x); let q2 := (DB.db (Wo q1 (-Nt.d x) ≠ iZ)); let q4 := (Wo q1 (-Nt.d x)); let q3 := (Int.tdiv (-Nt.n x) q4); let q5 := (Int.tdiv (-Nt.d x) q4); let q6 := (iN ≤ Int.tdiv (-Nt.n x) q4 ∧ Int.tdiv (-Nt.n x) q4 ≤ iX); let q7 := (ByteArray.data (ByteArray.mk #[(47 : UInt8)])); let q8 := (if -Nt.n x > Nt.n x then -Nt.n x else Nt.n x); let q9 := (DB.db (Wo q8 (Nt.d x) ≠ iZ)); let q11 := (Wo q8 (Nt.d x)); let q10 := (Int.tdiv (Nt.n x) q11); let q12 := (Int.tdiv (Nt.d x)
 q11); let q13 := (iN ≤ Int.tdiv (Nt.n x) q11 ∧ Int.tdiv (Nt.n x) q11 ≤ iX); zB [AV.agg 2 (zR.enc x)] → zZ (zM (Nt.d x) iZ) (bF (dK (-Nt.n x)) (bF (dK (-Nt.d x)) (bF (dK (- -Nt.n x)) (((iZ ≤ if - -Nt.n x > -Nt.n x then - -Nt.n x else -Nt.n x) ∧ q1 ≤ iX) ∧ (iZ ≤ -Nt.d x ∧ -Nt.d x ≤ iX) ∧ bF q2 (bF (dK q3) (bF q2 (bF (dK q5) (zZ (Int.tdiv (-Nt.d x) q4 == iO) (q6
 ∧ Lib.itoa q3 = xw (Nt.n x) (Nt.d x)) (q6 ∧ bF (DB.db (lN (Lib.itoa q3) + 1 ≤ nX)) ((iN ≤ Int.tdiv (-Nt.d x) q4 ∧ Int.tdiv (-Nt.d x) q4 ≤ iX) ∧ bF (DB.db (lN (Lib.itoa q3 ++ Array.toList q7) + lN (Lib.itoa q5) ≤ nX)) (Lib.itoa q3 ++ Array.toList q7 ++ Lib.itoa q5 = xw (Nt.n x) (Nt.d x)))))))))))) (bF (dK (-Nt.n x)) (((iZ ≤ if -Nt.n x > Nt.n x then -Nt.n x else Nt.n x) ∧ q8 ≤ (9223372036854775807 :
 Int)) ∧ (iZ ≤ Nt.d x ∧ Nt.d x ≤ iX) ∧ bF q9 (bF (dK q10) (bF q9 (bF (dK q12) (zZ (Int.tdiv (Nt.d x) q11 == iO) (q13 ∧ Lib.itoa q10 = xw (Nt.n x) (Nt.d x)) (q13 ∧ bF (DB.db (lN (Lib.itoa q10) + 1 ≤ nX)) ((iN ≤ Int.tdiv (Nt.d x) q11 ∧ Int.tdiv (Nt.d x) q11 ≤ iX) ∧ bF (DB.db (lN (Lib.itoa q10 ++ Array.toList q7) + lN (Lib.itoa q12) ≤ nX)) (Lib.itoa q10 ++ Array.toList q7 ++ Lib.itoa q12 = xw
 (Nt.n x) (Nt.d x)))))))))) := by
 delta bF dK nX lN iZ iO iX iN
 dsimp only
 intro hb
 simp only [sS, dS]
 have key : ∀ n d : Int, 0 < d → d ≤ 1000000000000000000 → -1000000000000000000 ≤ n ∧ n ≤ 1000000000000000000 → _ := fun n d hd hd1 hn => And.intro (m7 n hd) (And.intro (Ox n hd) (R2 n d.toNat))
 refine ⟨fun hd => ?_, fun hd => ?_⟩
 ·obtain ⟨k1, ⟨k2, k3, k4, k5, k6, k7⟩, k8, k9⟩ := key (-x.n) (-x.d) (by omega) (by omega) ⟨by omega, by omega⟩
  have hs : xw x.n x.d = ZI (-x.n) (-x.d).toNat := by unfold xw; rw [(zq _ _).2 hd]; rfl
  rw [k1, k3, k4, hs]
  generalize ZI (-x.n) (-x.d).toNat = R at *
  generalize Nat.gcd (-x.n).natAbs (-x.d).toNat = g at *
  generalize (-x.n) / (g : Int) = q at *
  generalize (-x.d).toNat / g = e at *
  have l1 := oP (n := q) (by omega)
  have l2 := oP (n := (e : Int)) (by omega)
  refine ⟨⟨by omega, by omega⟩, ⟨by omega, by omega⟩, ⟨by omega, by omega⟩, ⟨by split <;> omega, by split <;> omega⟩, ⟨by omega, by omega⟩, by omega, ⟨by omega, by omega⟩, by omega, ⟨by omega, by omega⟩, fun h => ⟨⟨by omega, by omega⟩, k8 (by omega)⟩, fun h => ⟨⟨by omega, by omega⟩, by omega, ⟨by omega, by omega⟩, by rw [List.length_append, List.length_singleton]; omega, k9 (by omega)⟩⟩
 ·obtain ⟨k1, ⟨k2, k3, k4, k5, k6, k7⟩, k8, k9⟩ := key x.n x.d (by omega) (by omega) h2
  have hs : xw x.n x.d = ZI x.n x.d.toNat := by unfold xw; rw [show zM x.d 0 = false from Bool.eq_false_iff.2 fun e => by have := (zq _ _).1 e; omega]; rfl
  rw [k1, k3, k4, hs]
  generalize ZI x.n x.d.toNat = R at *
  generalize Nat.gcd x.n.natAbs x.d.toNat = g at *
  generalize x.n / (g : Int) = q at *
  generalize hD : x.d.toNat / g = e at *
  have l1 := oP (n := q) (by omega)
  have l2 := oP (n := (e : Int)) (by omega)
  refine ⟨⟨by omega, by omega⟩, ⟨by split <;> omega, by split <;> omega⟩, ⟨by omega, by omega⟩, by omega, ⟨by omega, by omega⟩, by omega, ⟨by omega, by omega⟩, fun h => ⟨⟨by omega, by omega⟩, k8 (by omega)⟩, fun h => ⟨⟨by omega, by omega⟩, by omega, ⟨by omega, by omega⟩, by rw [List.length_append, List.length_singleton]; omega, k9 (by omega)⟩⟩
theorem Hs {G : List (Nat × Obj)} (hG : zO G) (x : Nt) (h0 : x.d ≠ 0) (h1 : -1000000000000000000 ≤ x.d ∧ x.d ≤ 1000000000000000000) (h2 : -1000000000000000000 ≤ x.n ∧ x.n ≤ 1000000000000000000) : zv Tryz.prog G 98 [yD x] (.str (xw x.n x.d)) :=
 zW (T := (LC G).plus 80 S5) (an := .auto) mixed (zz.plus (YK hG) (zQ.mono Ng)) (Eq.mp (by kernel_rfl) (K2 G x h0 h1 h2))
theorem MQ {G : List (Nat × Obj)} (hG : zO G) : zQ Tryz.prog G 98 Rv := by
 intro xs ps r h hp
 unfold Rv at h
 split at h
 ·skip
  rename_i p_x
  cases h
  obtain ⟨q0, q1, q2, q3, -⟩ := ZT hp
  exact weaken (ys := [yD (⟨AV.int (p_x 0), AV.int (p_x 1)⟩ : Nt)]) ⟨zD (x := .agg 2 p_x) (α := Nt) q0, trivial⟩ (Hs hG (⟨AV.int (p_x 0), AV.int (p_x 1)⟩ : Nt) q1 q2 q3)
 ·cases h
def ye (s : zj) : zj := bif s == [48] then s else bif zJ s then zp s else 45 :: s
def QK : List AV → Option (List zN × AV)
 | [.str s] => some ([.p (s.length ≤ 4294967280)], .str (ye s))
 | _ => none
theorem ju (s : List UInt8) (hl : s.length ≤ 4294967280) :
 zB [AV.str s] → zZ (s == bA #[(48 : UInt8)]) (s = ye s) (zZ (zJ s) (zp s = ye s) (bF (DB.db (1 + lN s ≤ nX)) (bA #[(45 : UInt8)] ++ s = ye s))) := by
 delta bF bA nX lN
 intro hb
 simp only [sS, dS]
 unfold ye
 refine zY.2 ⟨fun c => by rw [c]; rfl, fun c => zY.2 ⟨fun c2 => by rw [c, c2]; rfl, fun c2 => ⟨by omega, by rw [c, c2]; rfl⟩⟩⟩
theorem Ib (s : List UInt8) (hl : s.length ≤ 4294967280) : zv Tryz.prog [] 103 [.str s] (.str (ye s)) :=
 zW (T := T0.plus 129 (Yq fun s => .tup 2 (zw [.str (zp s), .b (zJ s)]))) (an := .auto) mixed (zz.plus zr pN) (Eq.mp (by kernel_rfl) (ju s hl))
theorem IF : zQ Tryz.prog [] 103 QK := by
 intro xs ps r h hp
 unfold QK at h
 split at h
 ·skip
  rename_i s
  cases h
  obtain ⟨q0, -⟩ := ZT hp
  exact weaken (ys := [.str s]) ⟨zV _, trivial⟩ (Ib s q0)
 ·cases h
theorem QU {s : zj} (h : ZU s = 0) : ZU (ye s) = 0 ∧ zX (ye s) = -zX s ∧ (ye s).length ≤ 302 := by
 obtain ⟨h1, h2⟩ := yq.1 h
 have e : ye s = Lib.itoa (-zX s) := by
  unfold ye
  by_cases h0 : s = [48]
  ·subst h0
   show [48] = Lib.itoa ((0 : Nat) : Int)
   rw [Go.Ar.Z0, ZZ (by omega)]; rfl
  rw [beq_eq_false_iff_ne.2 h0, cond_false]
  rcases yd h1 with ⟨r, rfl, g1, g2, g3⟩ | ⟨g1, g3⟩
  ·rw [g3, Int.neg_neg, Go.Ar.Z0, ZG g1]
   rfl
  ·have hm : zJ s = false := by
    cases hm : zJ s with
    | false => rfl
    | true =>
     match s, hm, g1 with
     | c :: r, hm, g1 =>
      have hc : c = 45 := eq_of_beq hm
      subst hc
      exact (wE g1).elim
   have hz : zc s ≠ 0 := fun hz => h0 (uS g1 hz)
   rw [hm, cond_false, g3, Go.Ar.itoa_neg hz, ZG g1]
 have hl := (wK (ye s)).2
 have hE : ZU (ye s) = 0 := by
  rw [e, Ym]
  unfold ZN Xu
  rw [Int.natAbs_neg]
  rw [wo h1] at h2
  unfold Xu at h2
  rw [show Nat.blt 300 (Lib.nDigits (zX s).natAbs) = false from Bool.eq_false_iff.2 fun e => by have := (Zx _ _).1 e; omega]
  rfl
 exact ⟨hE, by rw [e, (za _).2], by have := (yq.1 hE).2; omega⟩
theorem My {N : Int} {D : Nat} {n d : zj} (hn : n = Lib.itoa (N / (Nat.gcd N.natAbs D : Int))) (hd : d = Lib.itoa ((D / Nat.gcd N.natAbs D : Nat) : Int)) (ln : n.length ≤ 400) (ld : d.length ≤ 400) :
  zZ (d == [49]) (2 = [AV.junk, AV.junk].length ∧ n = ZI N D) (n.length + 1 ≤ 9223372036854775807 ∧ (n ++ [47]).length + d.length ≤ 9223372036854775807 ∧ 2 = [AV.junk, AV.junk].length ∧ n ++ [47] ++ d = ZI N D) := by
 obtain ⟨s1, s2⟩ := R2 N D
 have e := SC (D / Nat.gcd N.natAbs D)
 rw [← hd] at e
 refine zY.2 ⟨fun c => ⟨rfl, ?_⟩, fun c => ⟨by omega, by rw [List.length_append, List.length_singleton]; omega, rfl, ?_⟩⟩
 ·rw [c] at e
  rw [hn]; exact s1 (Nat.eq_of_beq_eq_true e.symm)
 ·rw [c] at e
  rw [hn, hd]; exact s2 fun h => by rw [h] at e; cases e
theorem Hu {n d : zj} (hn : ZU n = 0) (hd : ZU d = 0) (hp : 0 < zX d) : zb n d = 0 ∧ (Lib.itoa (yh n d : Int)).length ≤ 400 ∧ n.length ≤ 400 ∧ d.length ≤ 400 ∧
  zZ (!Lib.itoa (yh n d : Int) == [49])
   (zZ (yP d (Lib.itoa (yh n d : Int)) == [49]) (2 = [AV.junk, AV.junk].length ∧ yP n (Lib.itoa (yh n d : Int)) = ZI (zX n) (zX d).toNat)
    (List.length (yP n (Lib.itoa (yh n d : Int))) + 1 ≤ 9223372036854775807 ∧ List.length (yP n (Lib.itoa (yh n d : Int)) ++ [47]) + List.length (yP d (Lib.itoa (yh n d : Int))) ≤ 9223372036854775807 ∧
     2 = [AV.junk, AV.junk].length ∧ yP n (Lib.itoa (yh n d : Int)) ++ [47] ++ yP d (Lib.itoa (yh n d : Int)) = ZI (zX n) (zX d).toNat))
   (zZ (d == [49]) (2 = [AV.junk, AV.junk].length ∧ n = ZI (zX n) (zX d).toNat) (n.length + 1 ≤ 9223372036854775807 ∧ (n ++ [47]).length + d.length ≤ 9223372036854775807 ∧ 2 = [AV.junk, AV.junk].length ∧ n ++ [47] ++ d = ZI (zX n) (zX d).toNat)) := by
 have hb : zb n d = 0 := by unfold zb; rw [hn, hd]; rfl
 obtain ⟨n1, n2, n3⟩ := yY hn
 obtain ⟨d1, d2, d3⟩ := yY hd
 have n4 := sd hn
 have d4 := sd hd
 have eD : (zX d).natAbs = (zX d).toNat := by omega
 have hg : yh n d = Nat.gcd (zX n).natAbs (zX d).toNat := by unfold yh; rw [eD]
 obtain ⟨g1, g2, g3, g4, g5, g6⟩ := Ox (zX n) hp
 rw [← hg] at g1 g2 g3 g4 g5 g6
 have gl : yh n d ≤ (zX d).natAbs := by rw [hg, eD]; exact Nat.le_of_dvd (by omega) (Nat.gcd_dvd_right _ _)
 have gi : ZU (Lib.itoa (yh n d : Int)) = 0 := by
  rw [Ym]
  exact (Zp (n := (yh n d : Int)) (k := 300) (by omega) (by omega) (by rw [Int.natAbs_natCast]; omega)).2
 have lg := (yY gi).2.1
 have hz : (Lib.itoa (yh n d : Int) == [48]) = false := beq_eq_false_iff_ne.2 fun e => by
  have := (za (yh n d : Int)).2
  rw [e] at this
  have h0 : zX [48] = 0 := by decide
  rw [h0] at this
  omega
 have dv : ∀ x : zj, ZU x = 0 → yP x (Lib.itoa (yh n d : Int)) = Lib.itoa (zX x / (yh n d : Int)) := fun x hx => by
  have e : xC x (Lib.itoa (yh n d : Int)) = 0 := by
   unfold xC zb
   rw [hx, gi, hz]; rfl
  rw [(rp e).1, (za _).2, Int.fdiv_eq_ediv_of_nonneg _ (by omega)]
 have vd : zX d / (yh n d : Int) = (((zX d).toNat / yh n d : Nat) : Int) := by
  rw [Int.natCast_ediv]; congr 1; omega
 have qd := dv d hd
 rw [vd] at qd
 have ql : ∀ x : Int, x.natAbs < 10 ^ 300 → (Lib.itoa x).length ≤ 400 := fun x hx => by
  have := Ym x
  rw [(Zp (n := x) (k := 300) (by omega) (by omega) hx).2] at this
  have := (yY this).2.1
  omega
 refine ⟨hb, by omega, by omega, by omega, zY.2 ⟨fun c => ?_, fun c => ?_⟩⟩
 ·refine My (by rw [dv n hn, hg]) (by rw [qd, hg]) ?_ ?_
  ·rw [dv n hn]; exact ql _ (by omega)
  ·rw [qd]; exact ql _ (by rw [Int.natAbs_natCast]; omega)
 ·rw [Bool.not_eq_false', SC] at c
  have c1 := Nat.eq_of_beq_eq_true c
  rw [hg] at c1
  refine My ?_ ?_ (by omega) (by omega)
  ·rw [c1]
   show n = Lib.itoa (zX n / 1)
   rw [Int.ediv_one, Yt n3]
  ·rw [c1, Nat.div_one, show (((zX d).toNat : Nat) : Int) = zX d by omega, Yt d3]
def uz : List AV → Option (List zN × AV)
 | [.str n, .str d] => some ([.p (ZU n = 0), .p (ZU d = 0), .p (zX d ≠ 0)], .tup 2 (zw [.str (xw (zX n) (zX d)), .i 0]))
 | _ => none
theorem K5 (G : List (Nat × Obj)) (n : List UInt8) (d : List UInt8) (hn : ZU n = 0) (hd : ZU d = 0) (hp : zX d ≠ 0) :
 let q1 := (True ∧ bA #[] = xw (zX n) (zX d)); let q2 := (bif zb (ye n) (ye d) != iZ then [] else Lib.itoa (cI (yh (ye n) (ye d)))); let q3 := (ByteArray.data (ByteArray.mk #[(49 : UInt8)])); let q4 := (ByteArray.data (ByteArray.mk #[(47 : UInt8)])); let q5 := (bif zb n d != iZ then [] else Lib.itoa (cI (yh n d))); zB [AV.str n, AV.str d] → zZ (zJ d) (lN n ≤ nM ∧ lN d ≤ nM ∧ lN (ye n) ≤ nM ∧ lN (ye d) ≤ nM ∧ zZ (zb (ye n)
 (ye d) != iZ) (j2 ∧ q1 ∧ kI ∧ zb (ye n) (ye d) = iZ) (zZ (!q2 == Array.toList q3) (lN (ye n) ≤ nM ∧ lN q2 ≤ nM ∧ lN (ye d) ≤ nM ∧ lN q2 ≤ nM ∧ zZ (yP (ye d) q2 == Array.toList q3) (j2 ∧ (True ∧ yP (ye n) q2 = xw (zX n) (zX d)) ∧ kI ∧ iZ = iZ) (bF (DB.db (lN (yP (ye n) q2) + 1 ≤ nX)) (bF (DB.db (lN (yP (ye n) q2 ++
 Array.toList q4) + lN (yP (ye d) q2) ≤ nX)) (j2 ∧ (True ∧ yP (ye n) q2 ++ Array.toList q4 ++ yP (ye d) q2 = xw (zX n) (zX d)) ∧ kI ∧ iZ = iZ)))) (zZ (ye d == Array.toList q3) (j2 ∧ (True ∧ ye n = xw (zX n) (zX d)) ∧ kI ∧ iZ = iZ) (bF (DB.db (lN (ye n) + 1 ≤ nX)) (bF (DB.db (lN (ye n ++ Array.toList q4) + lN (ye d) ≤ nX)) (2 =
 lN [AV.junk, AV.junk] ∧ (True ∧ ye n ++ Array.toList q4 ++ ye d = xw (zX n) (zX d)) ∧ kI ∧ iZ = iZ)))))) (lN n ≤ nM ∧ lN d ≤ nM ∧ zZ (zb n d != iZ) (j2 ∧ q1 ∧ kI ∧ zb n d = iZ) (zZ (!q5 == Array.toList q3) (lN n ≤ nM ∧ lN q5 ≤ nM ∧ lN d ≤ nM ∧ lN q5 ≤ nM ∧ zZ (yP d q5 == Array.toList q3) (j2 ∧ (True ∧ yP n q5 = xw (zX
 n) (zX d)) ∧ kI ∧ iZ = iZ) (bF (DB.db (lN (yP n q5) + 1 ≤ nX)) (bF (DB.db (lN (yP n q5 ++ Array.toList q4) + lN (yP d q5) ≤ nX)) (j2 ∧ (True ∧ yP n q5 ++ Array.toList q4 ++ yP d q5 = xw (zX n) (zX d)) ∧ kI ∧ iZ = iZ)))) (zZ (d == Array.toList q3) (j2 ∧ (True ∧ n = xw (zX n) (zX d)) ∧ kI ∧ iZ = iZ) (bF (DB.db (lN n + 1 ≤
 nX)) (bF (DB.db (lN (n ++ Array.toList q4) + lN d ≤ nX)) (j2 ∧ (True ∧ n ++ Array.toList q4 ++ d = xw (zX n) (zX d)) ∧ kI ∧ iZ = iZ)))))) := by
 delta bF bA nX nM cI kI j2 lN iZ
 dsimp only
 intro hb
 simp only [sS, dS]
 have key : ∀ n d : zj, ZU n = 0 → ZU d = 0 → 0 < zX d → _ := fun n d h1 h2 h3 => Hu h1 h2 h3
 refine zY.2 ⟨fun c => ?_, fun c => ?_⟩
 ·obtain ⟨o1, o2, o3⟩ := QU hn
  obtain ⟨p1, p2, p3⟩ := QU hd
  have hneg : zX d < 0 := by
   match d, c with
   | x :: r, c =>
    have hx : x = 45 := eq_of_beq c
    subst hx
    have : zX (45 :: r) = -(zc r : Int) := rfl
    omega
  have hs : xw (zX n) (zX d) = ZI (zX (ye n)) (zX (ye d)).toNat := by unfold xw; rw [(zq _ _).2 hneg, o2, p2]; rfl
  obtain ⟨k1, k2, k3, k4, k5⟩ := key (ye n) (ye d) o1 p1 (by omega)
  obtain ⟨_, n2, _⟩ := yY hn
  obtain ⟨_, d2, _⟩ := yY hd
  rw [k1, hs]
  refine ⟨by omega, by omega, by omega, by omega, fun h => absurd rfl h, fun _ => ?_⟩
  refine zY.2 ⟨fun c => ⟨by omega, Nat.le_trans k2 (by decide), by omega, Nat.le_trans k2 (by decide), ?_⟩, fun c => ?_⟩
  ·exact (zY.1 k5).1 c
  ·exact (zY.1 k5).2 c
 ·have hpos : 0 < zX d := by
   obtain ⟨d1, _⟩ := yq.1 hd
   rcases yd d1 with ⟨r, rfl, _⟩ | ⟨g1, g3⟩
   ·cases c
   ·omega
  have hs : xw (zX n) (zX d) = ZI (zX n) (zX d).toNat := by unfold xw; rw [show zM (zX d) 0 = false from Bool.eq_false_iff.2 fun e => by have := (zq _ _).1 e; omega]; rfl
  obtain ⟨k1, k2, k3, k4, k5⟩ := key n d hn hd hpos
  rw [k1, hs]
  refine ⟨by omega, by omega, fun h => absurd rfl h, fun _ => ?_⟩
  refine zY.2 ⟨fun c => ⟨by omega, Nat.le_trans k2 (by decide), by omega, Nat.le_trans k2 (by decide), ?_⟩, fun c => ?_⟩
  ·exact (zY.1 k5).1 c
  ·exact (zY.1 k5).2 c
theorem gq {G : List (Nat × Obj)} (hG : zO G) (n : List UInt8) (d : List UInt8) (hn : ZU n = 0) (hd : ZU d = 0) (hp : zX d ≠ 0) : zv Tryz.prog G 44 [.str n, .str d] (.tup 2 (zw [.str (xw (zX n) (zX d)), .i 0])) :=
 zW (T := ((((Xz G).plus 102 (Yq fun s => .b (zJ s))).plus 84 rz).plus 104 V4).plus 103 QK) (an := .auto) mixed (zz.plus (zz.plus (zz.plus (zz.plus zr (zQ.mono RR)) (MM hG)) (rB hG)) (zQ.mono IF)) (Eq.mp (by kernel_rfl) (K5 G n d hn hd hp))
theorem Sg {G : List (Nat × Obj)} (hG : zO G) : zQ Tryz.prog G 44 uz := by
 intro xs ps r h hp
 unfold uz at h
 split at h
 ·skip
  rename_i n d
  cases h
  obtain ⟨q0, q1, q2, -⟩ := ZT hp
  exact weaken (ys := [.str n, .str d]) ⟨zV _, zV _, trivial⟩ (gq hG n d q0 q1 q2)
 ·cases h
end Go.Te

namespace Go.Te
open Go Go.Sx Go.Proofs Go.Ar
set_option maxRecDepth 100000
set_option maxHeartbeats 4000000
structure Pt where
 n : zj
 d : zj
instance : zR Pt := ⟨2, ⟨[], []⟩, fun c => zw [.str c.n, .str c.d], fun cs => ⟨AV.bytes (cs 0), AV.bytes (cs 1)⟩, fun cs => z7 (cs 0) && z7 (cs 1), fun cs h j hj => by
 simp only [Bool.and_eq_true] at h
 match j, hj with
 | 0, _ => exact Zj (XN h.1)
 | 1, _ => exact Zj (XN h.2)⟩
instance : YR Pt := ⟨fun _ => rfl, fun _ => rfl⟩
def JS (k : Nat) : AV → Bool
 | .fn (.func k') 0 _ 0 _ => Nat.beq k' k
 | _ => false
theorem Ra {k : Nat} {x : AV} (h : JS k x = true) : zi x (jK k) := by
 unfold JS at h
 split at h
 ·obtain rfl := Nat.eq_of_beq_eq_true h
  exact ⟨rfl, rfl, rfl, XV, XV⟩
 ·cases h
def Vo (x : Nt) : Prop := (-99999999 ≤ x.n ∧ x.n ≤ 99999999) ∧ (0 < x.d ∧ x.d ≤ 99999999)
theorem y9 {a b : Int} (ha : -99999999 ≤ a ∧ a ≤ 99999999) (hb : -99999999 ≤ b ∧ b ≤ 99999999) : -10000000000000000 ≤ a * b ∧ a * b ≤ 10000000000000000 := by
 have h : (a * b).natAbs ≤ 99999999 * 99999999 := by rw [Int.natAbs_mul]; exact Nat.mul_le_mul (by omega) (by omega)
 omega
def Lz : List AV → Option (List zN × AV)
 | [.agg 2 p_x, .agg 2 p_y] => some ([.b (Z4 (p_x 0) && Z4 (p_x 1)), .b (Z4 (p_y 0) && Z4 (p_y 1)), .p (Vo (⟨AV.int (p_x 0), AV.int (p_x 1)⟩ : Nt)), .p (Vo (⟨AV.int (p_y 0), AV.int (p_y 1)⟩ : Nt))], yD (⟨(⟨AV.int (p_x 0), AV.int (p_x 1)⟩ : Nt).n * (⟨AV.int (p_y 0), AV.int (p_y 1)⟩ : Nt).d + (⟨AV.int (p_y 0), AV.int (p_y 1)⟩ : Nt).n * (⟨AV.int (p_x 0), AV.int (p_x 1)⟩ : Nt).d, (⟨AV.int (p_x 0), AV.int (p_x 1)⟩ : Nt).d * (⟨AV.int (p_y 0), AV.int (p_y 1)⟩ : Nt).d⟩ : Nt))
 | _ => none
theorem Is (x : Nt) (y : Nt) (h1 : Vo x) (h2 : Vo y) :
 zB [AV.agg 2 (zR.enc x), AV.agg 2 (zR.enc y)] → bF (dK (Nt.n x * Nt.d y)) (bF (dK (Nt.n y * Nt.d x)) (bF (dK (Nt.n x * Nt.d y + Nt.n y * Nt.d x)) (bF (dK (Nt.d x * Nt.d y)) (2 = 2 ∧ (kI ∧ Nt.n x * Nt.d y + Nt.n y * Nt.d x = Nt.n (Nt.mk (Nt.n x * Nt.d y + Nt.n y * Nt.d x) (Nt.d x * Nt.d y))) ∧ kI ∧ Nt.d x * Nt.d y = Nt.d (Nt.mk (Nt.n x * Nt.d y + Nt.n y * Nt.d x) (Nt.d x * Nt.d y)))))) := by
 delta bF dK kI
 intro hb
 simp only [sS, dS]
 unfold Vo at h1 h2
 have m1 := y9 (a := x.n) (b := y.d) h1.1 ⟨by omega, h2.2.2⟩
 have m2 := y9 (a := y.n) (b := x.d) h2.1 ⟨by omega, h1.2.2⟩
 have m3 := y9 (a := x.d) (b := y.d) ⟨by omega, h1.2.2⟩ ⟨by omega, h2.2.2⟩
 exact ⟨⟨by omega, by omega⟩, ⟨by omega, by omega⟩, ⟨by omega, by omega⟩, ⟨by omega, by omega⟩⟩
theorem GJ (x : Nt) (y : Nt) (h1 : Vo x) (h2 : Vo y) : zv Tryz.prog [] 45 [yD x, yD y] (yD (⟨x.n * y.d + y.n * x.d, x.d * y.d⟩ : Nt)) :=
 zW (T := T0) (an := .auto) mixed zr (Eq.mp (by kernel_rfl) (Is x y h1 h2))
theorem Gi : zQ Tryz.prog [] 45 Lz := by
 intro xs ps r h hp
 unfold Lz at h
 split at h
 ·skip
  rename_i p_x p_y
  cases h
  obtain ⟨q0, q1, q2, q3, -⟩ := ZT hp
  exact weaken (ys := [yD (⟨AV.int (p_x 0), AV.int (p_x 1)⟩ : Nt), yD (⟨AV.int (p_y 0), AV.int (p_y 1)⟩ : Nt)]) ⟨zD (x := .agg 2 p_x) (α := Nt) q0, zD (x := .agg 2 p_y) (α := Nt) q1, trivial⟩ (GJ (⟨AV.int (p_x 0), AV.int (p_x 1)⟩ : Nt) (⟨AV.int (p_y 0), AV.int (p_y 1)⟩ : Nt) q2 q3)
 ·cases h
def MC : List AV → Option (List zN × AV)
 | [.agg 2 p_x, .agg 2 p_y] => some ([.b (Z4 (p_x 0) && Z4 (p_x 1)), .b (Z4 (p_y 0) && Z4 (p_y 1)), .p (Vo (⟨AV.int (p_x 0), AV.int (p_x 1)⟩ : Nt)), .p (Vo (⟨AV.int (p_y 0), AV.int (p_y 1)⟩ : Nt))], yD (⟨(⟨AV.int (p_x 0), AV.int (p_x 1)⟩ : Nt).n * (⟨AV.int (p_y 0), AV.int (p_y 1)⟩ : Nt).n, (⟨AV.int (p_x 0), AV.int (p_x 1)⟩ : Nt).d * (⟨AV.int (p_y 0), AV.int (p_y 1)⟩ : Nt).d⟩ : Nt))
 | _ => none
theorem H7 (x : Nt) (y : Nt) (h1 : Vo x) (h2 : Vo y) :
 zB [AV.agg 2 (zR.enc x), AV.agg 2 (zR.enc y)] → bF (dK (Nt.n x * Nt.n y)) (bF (dK (Nt.d x * Nt.d y)) (2 = 2 ∧ (kI ∧ Nt.n x * Nt.n y = Nt.n (Nt.mk (Nt.n x * Nt.n y) (Nt.d x * Nt.d y))) ∧ kI ∧ Nt.d x * Nt.d y = Nt.d (Nt.mk (Nt.n x * Nt.n y) (Nt.d x * Nt.d y)))) := by
 delta bF dK kI
 intro hb
 simp only [sS, dS]
 unfold Vo at h1 h2
 have m1 := y9 (a := x.n) (b := y.n) h1.1 ⟨by omega, h2.1.2⟩
 have m2 := y9 (a := y.n) (b := x.d) h2.1 ⟨by omega, h1.2.2⟩
 have m3 := y9 (a := x.d) (b := y.d) ⟨by omega, h1.2.2⟩ ⟨by omega, h2.2.2⟩
 exact ⟨⟨by omega, by omega⟩, ⟨by omega, by omega⟩⟩
theorem Gs (x : Nt) (y : Nt) (h1 : Vo x) (h2 : Vo y) : zv Tryz.prog [] 40 [yD x, yD y] (yD (⟨x.n * y.n, x.d * y.d⟩ : Nt)) :=
 zW (T := T0) (an := .auto) mixed zr (Eq.mp (by kernel_rfl) (H7 x y h1 h2))
theorem fO : zQ Tryz.prog [] 40 MC := by
 intro xs ps r h hp
 unfold MC at h
 split at h
 ·skip
  rename_i p_x p_y
  cases h
  obtain ⟨q0, q1, q2, q3, -⟩ := ZT hp
  exact weaken (ys := [yD (⟨AV.int (p_x 0), AV.int (p_x 1)⟩ : Nt), yD (⟨AV.int (p_y 0), AV.int (p_y 1)⟩ : Nt)]) ⟨zD (x := .agg 2 p_x) (α := Nt) q0, zD (x := .agg 2 p_y) (α := Nt) q1, trivial⟩ (Gs (⟨AV.int (p_x 0), AV.int (p_x 1)⟩ : Nt) (⟨AV.int (p_y 0), AV.int (p_y 1)⟩ : Nt) q2 q3)
 ·cases h
def WU (f : Int → Int → Int) (x y : Pt) : Int :=
 bif ZN (zX x.n * zX y.d) != 0 then ZN (zX x.n * zX y.d) else bif ZN (zX y.n * zX x.d) != 0 then ZN (zX y.n * zX x.d)
 else bif ZN (f (zX x.n * zX y.d) (zX y.n * zX x.d)) != 0 then ZN (f (zX x.n * zX y.d) (zX y.n * zX x.d)) else ZN (zX x.d * zX y.d)
def TD (f : Int → Int → Int) (x y : Pt) : zj := bif WU f x y == 0 then xw (f (zX x.n * zX y.d) (zX y.n * zX x.d)) (zX x.d * zX y.d) else []
def uW (x : Pt) : Prop := ZU x.n = 0 ∧ ZU x.d = 0 ∧ zX x.d ≠ 0
theorem wP {f : Int → Int → Int} {a b : zj} (ha : ZU a = 0) (hb : ZU b = 0) : Yi f a b = ZN (f (zX a) (zX b)) ∧ Z5 f a b = Yg (f (zX a) (zX b)) := by
 have hE : zb a b = 0 := by unfold zb; rw [ha, hb]; rfl
 obtain ⟨e1, e2⟩ := uf (f := f) hE
 exact ⟨e2, e1⟩
theorem Wh {n : Int} (h : ZN n = 0) : ZU (Yg n) = 0 ∧ zX (Yg n) = n ∧ (Yg n).length ≤ 400 := by
 have e : Yg n = Lib.itoa n := by unfold Yg; rw [h]; rfl
 have hi : ZU (Lib.itoa n) = 0 := by rw [Ym, h]
 rw [e]
 exact ⟨hi, (za n).2, by have := (yY hi).2.1; omega⟩
theorem N4 {f : Int → Int → Int} {x y : Pt} (h1 : uW x) (h2 : uW y) :
 x.n.length ≤ 4294967280 ∧ y.d.length ≤ 4294967280 ∧
  (Yi (fun x1 x2 => x1 * x2) x.n y.d ≠ 0 →
   (Yi (fun x1 x2 => x1 * x2) x.n y.d ≠ 0 → 2 = [AV.junk, AV.junk].length ∧ [] = TD f x y ∧ Yi (fun x1 x2 => x1 * x2) x.n y.d = WU f x y) ∧
   (Yi (fun x1 x2 => x1 * x2) x.n y.d = 0 → 2 = [AV.junk, AV.junk].length ∧ [] = TD f x y ∧ Yi f [] [] = WU f x y)) ∧
  (Yi (fun x1 x2 => x1 * x2) x.n y.d = 0 → y.n.length ≤ 4294967280 ∧ x.d.length ≤ 4294967280 ∧
   (Yi (fun x1 x2 => x1 * x2) y.n x.d ≠ 0 → 2 = [AV.junk, AV.junk].length ∧ [] = TD f x y ∧ Yi (fun x1 x2 => x1 * x2) y.n x.d = WU f x y) ∧
   (Yi (fun x1 x2 => x1 * x2) y.n x.d = 0 → (Z5 (fun x1 x2 => x1 * x2) x.n y.d).length ≤ 4294967280 ∧ (Z5 (fun x1 x2 => x1 * x2) y.n x.d).length ≤ 4294967280 ∧
    (Yi f (Z5 (fun x1 x2 => x1 * x2) x.n y.d) (Z5 (fun x1 x2 => x1 * x2) y.n x.d) ≠ 0 → 2 = [AV.junk, AV.junk].length ∧ [] = TD f x y ∧ Yi f (Z5 (fun x1 x2 => x1 * x2) x.n y.d) (Z5 (fun x1 x2 => x1 * x2) y.n x.d) = WU f x y) ∧
    (Yi f (Z5 (fun x1 x2 => x1 * x2) x.n y.d) (Z5 (fun x1 x2 => x1 * x2) y.n x.d) = 0 → x.d.length ≤ 4294967280 ∧ y.d.length ≤ 4294967280 ∧
     (Yi (fun x1 x2 => x1 * x2) x.d y.d ≠ 0 → 2 = [AV.junk, AV.junk].length ∧ [] = TD f x y ∧ Yi (fun x1 x2 => x1 * x2) x.d y.d = WU f x y) ∧
     (Yi (fun x1 x2 => x1 * x2) x.d y.d = 0 → ZU (Z5 f (Z5 (fun x1 x2 => x1 * x2) x.n y.d) (Z5 (fun x1 x2 => x1 * x2) y.n x.d)) = 0 ∧ ZU (Z5 (fun x1 x2 => x1 * x2) x.d y.d) = 0 ∧ zX (Z5 (fun x1 x2 => x1 * x2) x.d y.d) ≠ 0 ∧
      2 = [AV.junk, AV.junk].length ∧ xw (zX (Z5 f (Z5 (fun x1 x2 => x1 * x2) x.n y.d) (Z5 (fun x1 x2 => x1 * x2) y.n x.d))) (zX (Z5 (fun x1 x2 => x1 * x2) x.d y.d)) = TD f x y ∧ 0 = WU f x y)))) := by
 obtain ⟨a1, a2, a3⟩ := h1
 obtain ⟨b1, b2, b3⟩ := h2
 have l1 := (yY a1).2.1
 have l2 := (yY a2).2.1
 have l3 := (yY b1).2.1
 have l4 := (yY b2).2.1
 obtain ⟨p1, p2⟩ := wP (f := fun x1 x2 => x1 * x2) a1 b2
 obtain ⟨p3, p4⟩ := wP (f := fun x1 x2 => x1 * x2) b1 a2
 obtain ⟨p5, p6⟩ := wP (f := fun x1 x2 => x1 * x2) a2 b2
 have bad : ∀ e : Int, e ≠ 0 → e = WU f x y → 2 = [AV.junk, AV.junk].length ∧ [] = TD f x y ∧ e = WU f x y := fun e h0 h => ⟨rfl, by unfold TD; rw [← h, beq_eq_false_iff_ne.2 h0]; rfl, h⟩
 rw [p1, p2, p3, p4, p5, p6]
 refine ⟨by omega, by omega, fun h => ⟨fun _ => bad _ h ?_, fun h0 => absurd h0 h⟩, fun g1 => ⟨by omega, by omega, fun h => bad _ h ?_, fun g2 => ?_⟩⟩
 ·unfold WU; rw [bne_iff_ne.2 h]; rfl
 ·unfold WU; rw [g1, bne_iff_ne.2 h]; rfl
 obtain ⟨r1, r2, r3⟩ := Wh g1
 obtain ⟨r4, r5, r6⟩ := Wh g2
 obtain ⟨p7, p8⟩ := wP (f := f) r1 r4
 rw [r2, r5] at p7 p8
 rw [p7, p8]
 refine ⟨by omega, by omega, fun h => bad _ h ?_, fun g3 => ⟨by omega, by omega, fun h => bad _ h ?_, fun g4 => ?_⟩⟩
 ·unfold WU; rw [g1, g2, bne_iff_ne.2 h]; rfl
 ·unfold WU; rw [g1, g2, g3]; rfl
 obtain ⟨s1, s2, s3⟩ := Wh g3
 obtain ⟨s4, s5, s6⟩ := Wh g4
 have e : WU f x y = 0 := by unfold WU; rw [g1, g2, g3, g4]; rfl
 rw [s2, s5]
 exact ⟨s1, s4, Int.mul_ne_zero a3 b3, rfl, by unfold TD; rw [e]; rfl, e.symm⟩
noncomputable def F1 (G : List (Nat × Obj)) : Tb := (((((Xz G).plus 43 Wc).plus 47 tg).plus 49 Rm).plus 44 uz).body Tryz.prog [(33, .auto)]
theorem sC {G : List (Nat × Obj)} (hG : zO G) : zz Tryz.prog (F1 G) := zz.body mixed (zz.plus (zz.plus (zz.plus (zz.plus zr (uu hG)) (PO hG)) (lH hG)) (Sg hG)) _
def mH : List AV → Option (List zN × AV)
 | [.agg 2 p_x, .agg 2 p_y, .xq 1 c_cf 0] => some ([.b (z7 (p_x 0) && z7 (p_x 1)), .b (z7 (p_y 0) && z7 (p_y 1)), .b (JS 47 (c_cf 0)), .p (uW (⟨AV.bytes (p_x 0), AV.bytes (p_x 1)⟩ : Pt)), .p (uW (⟨AV.bytes (p_y 0), AV.bytes (p_y 1)⟩ : Pt))], .tup 2 (zw [.str (TD (· + ·) (⟨AV.bytes (p_x 0), AV.bytes (p_x 1)⟩ : Pt) (⟨AV.bytes (p_y 0), AV.bytes (p_y 1)⟩ : Pt)), .i (WU (· + ·) (⟨AV.bytes (p_x 0), AV.bytes (p_x 1)⟩ : Pt) (⟨AV.bytes (p_y 0), AV.bytes (p_y 1)⟩ : Pt))]))
 | _ => none
theorem H5 (G : List (Nat × Obj)) (x : Pt) (y : Pt) (h1 : uW x) (h2 : uW y) :
 let q1 := (Yi (fun (x1 x2 : Int) => x1 * x2) (Pt.n x) (Pt.d y) != iZ); let q2 := (True ∧ bA #[] = TD (fun (x1 x2 : Int) => x1 + x2) x y); let q3 := (bA #[]); let q4 := (Z5 (fun (x1 x2 : Int) => x1 * x2) (Pt.n x) (Pt.d y)); let q5 := (Z5 (fun (x1 x2 : Int) => x1 * x2) (Pt.n y) (Pt.d x)); let q6 := (Z5 (fun (x1 x2 : Int) => x1 + x2) q4 q5); let q7 := (Z5 (fun (x1 x2 : Int) => x1 * x2) (Pt.d x) (Pt.d y)); zB [AV.agg 2 (zR.enc x), AV.agg 2 (zR.enc y), AV.xq 1 (fun (x : Nat) => AV.fn (Fn.func (64 :
 FuncId)) 0 (fun (x : Nat) => AV.junk) 0 fun (x : Nat) => AV.junk) 0] → lN (Pt.n x) ≤ nM ∧ lN (Pt.d y) ≤ nM ∧ zZ q1 (zZ q1 (j2 ∧ q2 ∧ kI ∧ Yi (fun (x1 x2 : Int) => x1 * x2) (Pt.n x) (Pt.d y) = WU (fun (x1 x2 : Int) => x1 + x2) x y) (0 ≤ nM ∧ 0 ≤ nM ∧ j2 ∧ q2 ∧ kI ∧ Yi (fun (x1 x2 : Int) => x1 + x2) q3 q3 = WU (fun (x1 x2 : Int) => x1 + x2) x y)) (lN (Pt.n y) ≤ nM ∧ lN (Pt.d x) ≤ nM ∧ zZ (Yi (fun (x1 x2
 : Int) => x1 * x2) (Pt.n y) (Pt.d x) != iZ) (j2 ∧ q2 ∧ kI ∧ Yi (fun (x1 x2 : Int) => x1 * x2) (Pt.n y) (Pt.d x) = WU (fun (x1 x2 : Int) => x1 + x2) x y) (lN q4 ≤ nM ∧ lN q5 ≤ nM ∧ zZ (Yi (fun (x1 x2 : Int) => x1 + x2) q4 q5 != iZ) (j2 ∧ q2 ∧ kI ∧ Yi (fun (x1 x2 : Int) => x1 + x2) q4 q5 = WU (fun (x1 x2 : Int) => x1 + x2) x y) (lN (Pt.d x) ≤ nM ∧ lN (Pt.d y) ≤ nM ∧ zZ (Yi (fun (x1 x2 : Int) => x1 * x2)
 (Pt.d x) (Pt.d y) != iZ) (j2 ∧ q2 ∧ kI ∧ Yi (fun (x1 x2 : Int) => x1 * x2) (Pt.d x) (Pt.d y) = WU (fun (x1 x2 : Int) => x1 + x2) x y) (ZU q6 = iZ ∧ ZU q7 = iZ ∧ zX q7 ≠ iZ ∧ j2 ∧ (True ∧ xw (zX q6) (zX q7) = TD (fun (x1 x2 : Int) => x1 + x2) x y) ∧ kI ∧ iZ = WU (fun (x1 x2 : Int) => x1 + x2) x y)))) := by
 delta bA nM kI j2 lN iZ
 dsimp only
 intro hb
 simp only [sS, dS]
 exact N4 h1 h2
theorem fL {G : List (Nat × Obj)} (hG : zO G) (x : Pt) (y : Pt) (h1 : uW x) (h2 : uW y) : zv Tryz.prog G 105 [yD x, yD y, .xq 1 (fun _ => jK 47) 0] (.tup 2 (zw [.str (TD (· + ·) x y), .i (WU (· + ·) x y)])) :=
 zW (T := F1 G) (an := .auto) mixed (sC hG) (Eq.mp (by kernel_rfl) (H5 G x y h1 h2))
theorem Gv {G : List (Nat × Obj)} (hG : zO G) : zQ Tryz.prog G 105 mH := by
 intro xs ps r h hp
 unfold mH at h
 split at h
 ·skip
  rename_i p_x p_y c_cf
  cases h
  obtain ⟨q0, q1, q2, q3, q4, -⟩ := ZT hp
  exact weaken (ys := [yD (⟨AV.bytes (p_x 0), AV.bytes (p_x 1)⟩ : Pt), yD (⟨AV.bytes (p_y 0), AV.bytes (p_y 1)⟩ : Pt), .xq 1 (fun _ => jK 47) 0]) ⟨zD (x := .agg 2 p_x) (α := Pt) q0, zD (x := .agg 2 p_y) (α := Pt) q1, ⟨rfl, rfl, Ra q2⟩, trivial⟩ (fL hG (⟨AV.bytes (p_x 0), AV.bytes (p_x 1)⟩ : Pt) (⟨AV.bytes (p_y 0), AV.bytes (p_y 1)⟩ : Pt) q3 q4)
 ·cases h
def QT (x y : Pt) : Int := bif ZN (zX x.n * zX y.n) != 0 then ZN (zX x.n * zX y.n) else ZN (zX x.d * zX y.d)
def LB (x y : Pt) : zj := bif QT x y == 0 then xw (zX x.n * zX y.n) (zX x.d * zX y.d) else []
def Me : List AV → Option (List zN × AV)
 | [.agg 2 p_x, .agg 2 p_y] => some ([.b (z7 (p_x 0) && z7 (p_x 1)), .b (z7 (p_y 0) && z7 (p_y 1)), .p (uW (⟨AV.bytes (p_x 0), AV.bytes (p_x 1)⟩ : Pt)), .p (uW (⟨AV.bytes (p_y 0), AV.bytes (p_y 1)⟩ : Pt))], .tup 2 (zw [.str (LB (⟨AV.bytes (p_x 0), AV.bytes (p_x 1)⟩ : Pt) (⟨AV.bytes (p_y 0), AV.bytes (p_y 1)⟩ : Pt)), .i (QT (⟨AV.bytes (p_x 0), AV.bytes (p_x 1)⟩ : Pt) (⟨AV.bytes (p_y 0), AV.bytes (p_y 1)⟩ : Pt))]))
 | _ => none
theorem iG (G : List (Nat × Obj)) (x : Pt) (y : Pt) (h1 : uW x) (h2 : uW y) :
 let q1 := (True ∧ bA #[] = LB x y); let q2 := (Z5 (fun (x1 x2 : Int) => x1 * x2) (Pt.n x) (Pt.n y)); let q3 := (Z5 (fun (x1 x2 : Int) => x1 * x2) (Pt.d x) (Pt.d y)); zB [AV.agg 2 (zR.enc x), AV.agg 2 (zR.enc y)] → lN (Pt.n x) ≤ nM ∧ lN (Pt.n y) ≤ nM ∧ zZ (Yi (fun (x1 x2 : Int) => x1 * x2) (Pt.n x) (Pt.n y) != iZ) (j2 ∧ q1 ∧ kI ∧ Yi (fun (x1 x2 : Int) => x1 * x2) (Pt.n x) (Pt.n y) = QT x y) (lN (Pt.d x) ≤ nM ∧ lN (Pt.d y) ≤
 nM ∧ zZ (Yi (fun (x1 x2 : Int) => x1 * x2) (Pt.d x) (Pt.d y) != iZ) (j2 ∧ q1 ∧ kI ∧ Yi (fun (x1 x2 : Int) => x1 * x2) (Pt.d x) (Pt.d y) = QT x y) (ZU q2 = iZ ∧ ZU q3 = iZ ∧ zX q3 ≠ iZ ∧ j2 ∧ (True ∧ xw (zX q2) (zX q3) = LB x y) ∧ kI ∧ iZ = QT x y)) := by
 delta bA nM kI j2 lN iZ
 dsimp only
 intro hb
 simp only [sS, dS]
 obtain ⟨a1, a2, a3⟩ := h1
 obtain ⟨b1, b2, b3⟩ := h2
 have l1 := (yY a1).2.1
 have l2 := (yY a2).2.1
 have l3 := (yY b1).2.1
 have l4 := (yY b2).2.1
 obtain ⟨p1, p2⟩ := wP (f := fun x1 x2 => x1 * x2) a1 b1
 obtain ⟨p5, p6⟩ := wP (f := fun x1 x2 => x1 * x2) a2 b2
 have bad : ∀ e : Int, e ≠ 0 → e = QT x y → 2 = [AV.junk, AV.junk].length ∧ [] = LB x y ∧ e = QT x y := fun e h0 h => ⟨rfl, by unfold LB; rw [← h, beq_eq_false_iff_ne.2 h0]; rfl, h⟩
 rw [p1, p2, p5, p6]
 refine ⟨by omega, by omega, fun h => bad _ h ?_, fun g1 => ⟨by omega, by omega, fun h => bad _ h ?_, fun g4 => ?_⟩⟩
 ·unfold QT; rw [bne_iff_ne.2 h]; rfl
 ·unfold QT; rw [g1]; rfl
 obtain ⟨s1, s2, s3⟩ := Wh g1
 obtain ⟨s4, s5, s6⟩ := Wh g4
 have e : QT x y = 0 := by unfold QT; rw [g1, g4]; rfl
 rw [s2, s5]
 exact ⟨s1, s4, Int.mul_ne_zero a3 b3, rfl, by unfold LB; rw [e]; rfl, e.symm⟩
theorem Gb {G : List (Nat × Obj)} (hG : zO G) (x : Pt) (y : Pt) (h1 : uW x) (h2 : uW y) : zv Tryz.prog G 42 [yD x, yD y] (.tup 2 (zw [.str (LB x y), .i (QT x y)])) :=
 zW (T := ((Xz G).plus 43 Wc).plus 44 uz) (an := .auto) mixed (zz.plus (zz.plus zr (uu hG)) (Sg hG)) (Eq.mp (by kernel_rfl) (iG G x y h1 h2))
theorem Gy {G : List (Nat × Obj)} (hG : zO G) : zQ Tryz.prog G 42 Me := by
 intro xs ps r h hp
 unfold Me at h
 split at h
 ·skip
  rename_i p_x p_y
  cases h
  obtain ⟨q0, q1, q2, q3, -⟩ := ZT hp
  exact weaken (ys := [yD (⟨AV.bytes (p_x 0), AV.bytes (p_x 1)⟩ : Pt), yD (⟨AV.bytes (p_y 0), AV.bytes (p_y 1)⟩ : Pt)]) ⟨zD (x := .agg 2 p_x) (α := Pt) q0, zD (x := .agg 2 p_y) (α := Pt) q1, trivial⟩ (Gb hG (⟨AV.bytes (p_x 0), AV.bytes (p_x 1)⟩ : Pt) (⟨AV.bytes (p_y 0), AV.bytes (p_y 1)⟩ : Pt) q2 q3)
 ·cases h
end Go.Te
