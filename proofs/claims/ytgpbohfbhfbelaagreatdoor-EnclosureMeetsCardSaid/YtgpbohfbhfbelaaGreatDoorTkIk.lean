/- integer: Divide, Gcd. -/
import Derived.Test.YtgpbohfbhfbelaaGreatDoorTkIi
set_option linter.unusedSimpArgs false
set_option linter.unusedVariables false
namespace Go.Te
open Go Go.Sx Go.Proofs Go.Ar
set_option maxRecDepth 100000
set_option maxHeartbeats 4000000
theorem MU (m t : Bool) {A B q r : Int} (hB : 0 < B) (h : r + B * q = bif !(m == t) then -A else A) (h0 : 0 ≤ r) (h1 : r < B) :
  Int.fdiv (bif m then -A else A) (bif t then -B else B) = q ∧ Int.fmod (bif m then -A else A) (bif t then -B else B) = bif t then -r else r := by
 cases t with
 | false =>
  refine Sb ?_ (.inl ⟨hB, h0, h1⟩)
  cases m <;> simpa using h
 | true =>
  refine Sb ?_ (.inr ⟨by simp; omega, by simp; omega, by simp; omega⟩)
  cases m <;> simp [Int.neg_mul] at h ⊢ <;> omega
theorem Wg (n : Bool) (k : Nat) : yG n (zw 1000000000 k) = bif n then -(k : Int) else k := by unfold yG; rw [xN]
theorem lQ {a b : zL} (h : xe a b ≠ 0) : yF a b = [] ∧ vo a b = [] := by
 unfold yF vo
 rw [beq_eq_false_iff_ne.2 h]
 exact ⟨rfl, rfl⟩
theorem P8 {a b : zL} (h : xe a b = 0) : yF a b = Lib.itoa (Int.fdiv (zV a) (zV b)) ∧ vo a b = Lib.itoa (Int.fmod (zV a) (zV b)) := by
 unfold yF vo
 rw [h]
 exact ⟨rfl, rfl⟩
theorem sj {a : zL} (h : ZX a = 0) : (zV a).natAbs < 10 ^ 300 := by
 obtain ⟨h1, h2⟩ := Ze.1 h
 rw [wH h1] at h2
 exact (yJ (k := 300) (u := (zV a).natAbs) (by omega)).1 h2
theorem HP {b : zL} (h : zC b = true) (h0 : b ≠ [48]) : zV b ≠ 0 := fun e => h0 (by
 rw [← x9 h, e]
 have : Lib.itoa ((0 : Nat) : Int) = [48] := by rw [Go.Ar.ym, z7 (by omega)]; rfl
 exact this)
theorem UB {a : zL} (h : zC a = true) : (bif zG a then -((zV a).natAbs : Int) else ((zV a).natAbs : Int)) = zV a := by
 have := xu h
 rw [Wg] at this
 exact this
theorem L4 (l : List Int) : Zi (AV.agg 2 (zt [AV.v ((Value.agg #[Value.bool false, Value.slice none 0 0]).cells.getD 0 undef), AV.xl false 1 l.length fun i j => AV.v (Value.int IntKind.i64 (l.getD i 0))])) = (⟨false, l⟩ : Big) := Ym false l
theorem PM (l : List Int) : yZ Big (AV.agg 2 (zt [AV.v ((Value.agg #[Value.bool false, Value.slice none 0 0]).cells.getD 0 undef), AV.xl false 1 l.length fun i j => AV.v (Value.int IntKind.i64 (l.getD i 0))])) = true := yE false l
def tw : List AV → Option (List zn × AV)
 | [.str a, .str b] => some ([.p (a.length ≤ 4294967280), .p (b.length ≤ 4294967280)], .tup 3 (zt [.str (yF a b), .str (vo a b), .i (xe a b)]))
 | _ => none
theorem K5 (G : List (Nat × Obj)) (a : List UInt8) (b : List UInt8) (hla : a.length ≤ 4294967280) (hlb : b.length ≤ 4294967280) :
 let q1 := ((True ∧ bA #[] = yF a b) ∧ bA #[] = vo a b); let q3 := (bif leB (lZ a) (18 : Int) && leB (lZ b) (18 : Int) then zV b else iZ); let q2 := (DB.db (q3 ≠ iZ)); let q5 := (bif leB (lZ a) (18 : Int) && leB (lZ b) (18 : Int) then zV a else iZ); let q4 := (Int.tdiv q5 q3); let q7 := (Int.tmod q5 q3 != iZ); let q6 := (!zS true q7 || zS true q7); let q8 := (Int.tmod q5 q3); let q9 := (Int.tdiv q5 q3 -
 iO); let q10 := (Int.tmod q5 q3 + bif leB (lZ a) (18 : Int) && leB (lZ b) (18 : Int) then zV b else iZ); let q12 := (zw 1000000000 (Int.natAbs (zV a))); let q11 := (xI q12); let q15 := (zw 1000000000 (Int.natAbs (zV b))); let q14 := (xI q15); let q13 := (Zy Int q14); let q16 := (zW q11); let q18 := (zW q14); let q17 := (∀ (x : Int), List.Mem x q18 → (0 :
 Int) ≤ x ∧ x < iB); let q19 := (!zS true !zG a == zG b || zS true !zG a == zG b); let q22 := (zX iB q16); let q23 := (zX iB q18); let q21 := (zw 1000000000 (Int.toNat q22 % Int.toNat q23)); let q20 := (lN q21); let q26 := (zw 1000000000 (Int.toNat q22 / Int.toNat q23)); let q25 := (lN q26); let q24 := (AV.xl false 1 q25 fun i j => aI (gD q26 i zi.dflt)); let q27 := (zW q24); let q28 := (zW (AV.xl true 1 1 (Sx.rowAt [fun (x : Nat) => aI iO]))); let
 q29 := (AV.xl false 1 q20 fun i j => aI (gD q21 i zi.dflt)); let q30 := (zW q29); let q32 := (zw 1000000000 (Int.toNat (zX iB q27 + zX iB q28))); let q31 := (AV.agg 2 (zt [AV.v (Value.bool !zG a == zG b), xI q32])); let q35 := (Zi q31); let q34 := (Big.l q35); let q37 := (zw 1000000000 (Int.toNat (zX iB q18 - zX iB q30))); let q36 := (AV.agg 2 (zt [AV.v (Value.bool (zG b)), AV.xl false 1
 (lN q37) fun i j => aI (gD q37 i zi.dflt)])); let q39 := (Zi q36); let q38 := (Big.l q39); let q41 := (yG (Big.neg q35) q34); let q40 := (ZU q41 != iZ); let q42 := (yG (Big.neg q39) q38); let q43 := (3 = lN [AV.junk, AV.junk, AV.junk] ∧ q1 ∧ kI ∧ (4 : Int) = xe a b); let q44 := (AV.agg 2 (zt [AV.v (Value.bool !zG a == zG b), AV.xl false 1 q25 fun i j => aI (gD q26 i zi.dflt)])); let q46 := (Zi q44); let q45 := (Big.l q46); let q47 := (AV.agg 2 (zt [AV.v (Value.bool (zG b)),
 AV.xl false 1 q20 fun i j => aI (gD q21 i zi.dflt)])); let q49 := (Zi q47); let q48 := (Big.l q49); let q51 := (yG (Big.neg q46) q45); let q50 := (ZU q51 != iZ); let q52 := (yG (Big.neg q49) q48); ZY [AV.str a, AV.str b] → lN a ≤ nM ∧ lN b ≤ nM ∧ zY (zI a b != iZ) (3 = lN [AV.junk, AV.junk, AV.junk] ∧ q1 ∧ kI ∧ zI a b = xe a b) (zY (b == bA #[(48 : UInt8)]) (3 = lN [AV.junk, AV.junk, AV.junk] ∧ q1 ∧ kI ∧
 (12 : Int) = xe a b) (zC a = true ∧ zC b = true ∧ (18 : Int) = (18 : Int) ∧ zY (leB (lZ a) (18 : Int) && leB (lZ b) (18 : Int)) (bF q2 (bF (dK q4) (bF q2 (bF q6 (bF q6 (bF q6 (bF q6 (bF (!Int.tmod q5 q3 != iZ || zS true q7) (zY (bif Int.tmod q5 q3 != iZ then !zH q8 iZ == zH q3 iZ else false) (bF (dK q9) (bF (dK q10) ((iN ≤ Int.tdiv q5 q3 - iO ∧ Int.tdiv q5 q3 - iO ≤ iX)
 ∧ ((iN ≤ Int.tmod q5 q3 + bif leB (lZ a) (18 : Int) && leB (lZ b) (18 : Int) then zV b else iZ) ∧ q10 ≤ iX) ∧ 3 = lN [AV.junk, AV.junk, AV.junk] ∧ ((True ∧ Lib.itoa q9 = yF a b) ∧ Lib.itoa q10 = vo a b) ∧ kI ∧ iZ = xe a b))) ((iN ≤ Int.tdiv q5 q3 ∧ Int.tdiv q5 q3 ≤ iX) ∧ (iN ≤ Int.tmod q5 q3 ∧ Int.tmod q5 q3 ≤ iX) ∧ 3 = lN [AV.junk, AV.junk,
 AV.junk] ∧ ((True ∧ Lib.itoa q4 = yF a b) ∧ Lib.itoa q8 = vo a b) ∧ kI ∧ iZ = xe a b)))))))))) (zC a = true ∧ lN a ≤ 100000000 ∧ zC b = true ∧ lN b ≤ 100000000 ∧ bF (Zy Int q11) (bF q13 ((∀ (x : Int), List.Mem x q16 → iZ ≤ x ∧ x < iB) ∧ q17 ∧ zO q16 = zW q11 ∧ zO q18 = zW q14 ∧ lN q18 ≠ 0 ∧ lN q16 ≤ 100000000 ∧ lN q18 ≤ 100000000 ∧ bF q19 (bF q19 (bF (!!zG a == zG b || zS true !zG a == zG b) (zY
 (bif !zG a == zG b then zH iZ (cI q20) else false) (bF (Zy Int q24) ((∀ (x : Int), List.Mem x q27 → iZ ≤ x ∧ x < iB) ∧ (∀ (x : Int), List.Mem x (zW (AV.xl true 1 1 (Sx.rowAt [fun (x : Nat) => aI iO]))) → iZ ≤ x ∧ x < iB) ∧ lN q27 ≤ 1000000000 ∧ lN q28 ≤ 1000000000 ∧ bF q13 (bF (Zy Int q29) (q17 ∧ (∀ (x : Int), List.Mem x q30 → iZ ≤ x ∧ x < iB) ∧ lN q18 ≤ 1000000000 ∧ lN q30 ≤ 1000000000 ∧ zX iB q30 ≤ zX
 iB q18 ∧ bF (yZ Big q31) ((∀ (x : Int), let q33 := (zw 1000000000 (Int.toNat (zX iB q27 + zX iB (zW (AV.xl true 1 1 (Sx.rowAt [fun (x : Nat) => aI iO])))))); List.Mem x (Big.l (Zi (AV.agg 2 (zt [AV.v (Value.bool !zG a == zG b), xI q33])))) → iZ ≤ x ∧ x < iB) ∧ zO q34 = Big.l q35 ∧ lN q34 ≤ 100000000 ∧ bF (yZ Big q36) ((∀ (x : Int), List.Mem x q38 → iZ ≤ x ∧ x <
 iB) ∧ zO q38 = Big.l q39 ∧ lN q38 ≤ 100000000 ∧ bF (!zS false q40 || zS false q40) (bF (!!ZU q41 != iZ || zS false q40) (zY (bif ZU q41 != iZ then true else ZU q42 != iZ) q43 (3 = lN [AV.junk, AV.junk, AV.junk] ∧ ((True ∧ yp q41 = yF a b) ∧ yp q42 = vo a b) ∧ kI ∧ iZ = xe a b))))))))) (bF (yZ Big q44) ((∀ (x : Int), List.Mem x q45 → iZ ≤ x ∧ x < iB) ∧ zO q45 = Big.l q46 ∧ lN q45 ≤ 100000000 ∧ zY
 (yZ Big q47) ((∀ (x : Int), List.Mem x q48 → iZ ≤ x ∧ x < iB) ∧ zO q48 = Big.l q49 ∧ lN q48 ≤ 100000000 ∧ bF (!zS false q50 || zS false q50) (bF (!!ZU q51 != iZ || zS false q50) (zY (bif ZU q51 != iZ then true else ZU q52 != iZ) q43 (3 = lN [AV.junk, AV.junk, AV.junk] ∧ ((True ∧ yp q51 = yF a b) ∧ yp q52 = vo a b) ∧ kI ∧ iZ = xe a b)))) False)))))))))) := by
 delta bF dK bA xI nM cI kI lZ lN gD iZ iO iX iN iB aI
 dsimp only
 intro hb
 have e0 : (zi.dflt : Int) = 0 := rfl
 simp only [↓ZE, ↓ZR, row_one]
 simp only [sS, dS, e0, Yb, YW, Ym, yE, x8, YD, x5, YB, Y3, kP, xN, lj, L4, PM]
 refine ⟨by omega, by omega, fun hE => ?_, fun hE => zv.2 ⟨fun c0 => ?_, fun c0 => ?_⟩⟩
 ·have e : xe a b = zI a b := by unfold xe; rw [bne_iff_ne.2 hE]; rfl
  obtain ⟨d1, d2⟩ := lQ (a := a) (b := b) (by rw [e]; exact hE)
  exact ⟨rfl, ⟨d1.symm, d2.symm⟩, e.symm⟩
 ·have e : xe a b = 12 := by unfold xe; rw [hE, c0]; rfl
  obtain ⟨d1, d2⟩ := lQ (a := a) (b := b) (by rw [e]; decide)
  exact ⟨rfl, ⟨d1.symm, d2.symm⟩, e.symm⟩
 have e : xe a b = 0 := by unfold xe; rw [hE, c0]; rfl
 obtain ⟨d1, d2⟩ := P8 e
 obtain ⟨hA, hB⟩ := yg hE
 obtain ⟨a1, a2, a3⟩ := Zb hA
 obtain ⟨b1, b2, b3⟩ := Zb hB
 have a4 := sj hA
 have b4 := sj hB
 have hv := HP b3 (beq_eq_false_iff_ne.1 c0)
 rw [d1, d2, e]
 refine ⟨a3, b3, zv.2 ⟨fun c => ?_, fun c => ?_⟩⟩
 ·rw [c]
  rw [Bool.and_eq_true] at c
  have x1 := JC a3 c.1
  have x2 := JC b3 c.2
  simp only [cond_true]
  obtain ⟨f1, f2, f3, f4⟩ := Lb (a := zV a) (b := zV b) hv
  refine ⟨hv, ⟨by omega, by omega⟩, hv, zv.2 ⟨fun cc => ?_, fun cc => ?_⟩⟩
  ·obtain ⟨g1, g2⟩ := f1 cc
   rw [g1, g2]
   exact ⟨⟨by omega, by omega⟩, ⟨by omega, by omega⟩, ⟨by omega, by omega⟩, ⟨by omega, by omega⟩, rfl, ⟨rfl, rfl⟩, trivial⟩
  ·obtain ⟨g1, g2⟩ := f2 cc
   rw [g1, g2]
   exact ⟨⟨by omega, by omega⟩, ⟨by omega, by omega⟩, rfl, ⟨rfl, rfl⟩, trivial⟩
 have wa := UB a3
 have wb := UB b3
 have la := Ww a1
 have lb := Ww b1
 have hB0 : 0 < (zV b).natAbs := by omega
 have hdm := Nat.div_add_mod (zV a).natAbs (zV b).natAbs
 have hml := Nat.mod_lt (zV a).natAbs hB0
 have hdl : (zV a).natAbs / (zV b).natAbs ≤ (zV a).natAbs := Nat.div_le_self _ _
 have lb0 : (zw 1000000000 (zV b).natAbs).length ≠ 0 := fun e => by have := yb (b := 1000000000) (by omega) e; omega
 have lq := Zu (b := 1000000000) (by omega) hdl
 have lr := Zu (b := 1000000000) (by omega) (Nat.le_of_lt hml)
 rw [← wa, ← wb]
 rw [show (bif zG a then -((zV a).natAbs : Int) else ((zV a).natAbs : Int)).natAbs = (zV a).natAbs from by rw [wa], show (bif zG b then -((zV b).natAbs : Int) else ((zV b).natAbs : Int)).natAbs = (zV b).natAbs from by rw [wb]]
 clear wa wb e d1 d2 hv a1 b1 c
 generalize hAA : (zV a).natAbs = A at *
 generalize hBB : (zV b).natAbs = B at *
 generalize zG a = m at *
 generalize zG b = t at *
 have hdmI : (B : Int) * ((A / B : Nat) : Int) + ((A % B : Nat) : Int) = (A : Int) := by exact_mod_cast hdm
 generalize A / B = Q at *
 generalize A % B = R at *
 refine ⟨a3, by omega, b3, by omega, (Zg _).1, (Zg _).1, (Zg _).2, (Zg _).2, lb0, by omega, by omega, zv.2 ⟨fun cc => ?_, fun cc => ?_⟩⟩
 ·rw [Bool.and_eq_true, zR] at cc
  have hr0 : R ≠ 0 := fun e => by have := cc.2; rw [e, ZN] at this; exact absurd this (by decide)
  have hB2 : 2 * Q ≤ B * Q := Nat.mul_le_mul_right _ (by omega)
  have eq : ((Q : Int) + 1).toNat = Q + 1 := by omega
  have er : ((B : Int) - (R : Int)).toNat = B - R := by omega
  obtain ⟨g1, g2⟩ := MU m t (A := A) (B := B) (q := -((Q + 1 : Nat) : Int)) (r := ((B - R : Nat) : Int)) (by omega) (by
   rw [cc.1, cond_true, Int.mul_neg, Int.natCast_add, Int.mul_add]; omega) (by omega) (by omega)
  have lq2 := Zu (b := 1000000000) (m := Q + 1) (n := A) (by omega) (by omega)
  have lr2 := Zu (b := 1000000000) (m := B - R) (n := B) (by omega) (by omega)
  simp only [eq, er, Wg]
  rw [g1, g2, cc.1, cond_true]
  obtain ⟨r1, r2⟩ := ZS (n := -((Q + 1 : Nat) : Int)) (k := 300) (by omega) (by omega) (by rw [Int.natAbs_neg, Int.natAbs_natCast]; omega)
  obtain ⟨r3, r4⟩ := ZS (n := bif t then -((B - R : Nat) : Int) else ((B - R : Nat) : Int)) (k := 300) (by omega) (by omega) (by cases t <;> simp only [cond_true, cond_false, Int.natAbs_neg, Int.natAbs_natCast] <;> omega)
  rw [r1, r2, r3, r4]
  have o1 : z8 1000000000 [1] := .one (by omega) (by omega)
  refine ⟨(Zg _).1, o1, by omega, by simp, (Zg _).1, (Zg _).1, by omega, by omega, by omega, (Zg _).1, (Zg _).2, by omega, (Zg _).1, (Zg _).2, by omega, ?_⟩
  exact ⟨rfl, ⟨rfl, rfl⟩, trivial⟩
 ·have hq : Int.fdiv (bif m then -(A : Int) else (A : Int)) (bif t then -(B : Int) else (B : Int)) = (bif !(m == t) then -(Q : Int) else (Q : Int)) ∧
    Int.fmod (bif m then -(A : Int) else (A : Int)) (bif t then -(B : Int) else (B : Int)) = bif t then -(R : Int) else (R : Int) := by
   refine MU m t (by omega) ?_ (by omega) (by omega)
   cases hs : !(m == t) with
   | false => simp only [cond_false]; omega
   | true =>
    rw [hs, Bool.true_and] at cc
    have hr0 : R = 0 := by
     refine Decidable.byContradiction fun hn => ?_
     have h1 : (zw 1000000000 R).length ≠ 0 := fun e => hn (yb (b := 1000000000) (by omega) e)
     rw [(zR _ _).2 (by omega)] at cc
     cases cc
    rw [hr0] at hdmI ⊢
    simp only [cond_true, Int.mul_neg]
    omega
  obtain ⟨g1, g2⟩ := hq
  simp only [Wg]
  rw [g1, g2]
  obtain ⟨r1, r2⟩ := ZS (n := bif !(m == t) then -(Q : Int) else (Q : Int)) (k := 300) (by omega) (by omega) (by cases !(m == t) <;> simp only [cond_true, cond_false, Int.natAbs_neg, Int.natAbs_natCast] <;> omega)
  obtain ⟨r3, r4⟩ := ZS (n := bif t then -(R : Int) else (R : Int)) (k := 300) (by omega) (by omega) (by cases t <;> simp only [cond_true, cond_false, Int.natAbs_neg, Int.natAbs_natCast] <;> omega)
  rw [r1, r2, r3, r4]
  exact ⟨(Zg _).1, (Zg _).2, by omega, (Zg _).1, (Zg _).2, by omega, rfl, ⟨rfl, rfl⟩, trivial⟩
theorem Mt {G : List (Nat × Obj)} (hG : zh G) (a : List UInt8) (b : List UInt8) (hla : a.length ≤ 4294967280) (hlb : b.length ≤ 4294967280) : zT Tryz.prog G 104 [.str a, .str b] (.tup 3 (zt [.str (yF a b), .str (vo a b), .i (xe a b)])) :=
 zU (T := HX G) (an := .auto) mixed (XY hG) (Eq.mp (by kernel_rfl) (K5 G a b hla hlb))
theorem QG {G : List (Nat × Obj)} (hG : zh G) : zQ Tryz.prog G 104 tw := by
 intro xs ps r h hp
 unfold tw at h
 split at h
 ·skip
  rename_i a b
  cases h
  obtain ⟨q0, q1, -⟩ := Zo hp
  exact weaken (ys := [.str a, .str b]) ⟨zr _, zr _, trivial⟩ (Mt hG a b q0 q1)
 ·cases h
structure Wx where
 x : Int
 y : Int
structure Vg where
 x : Nat
 y : Nat
def jg (a b : zL) : Z9 :=
 .two .auto (.two .auto (.two (.two .auto (.two .auto (.two (.two (.one (.loop Wx (fun σ z => [(7, .i z.x), (8, .i z.y)]) (fun σ z => []) 0 (fun σ z => Nat.gcd z.x.natAbs z.y.natAbs = Zc a b ∧ z.x.natAbs ≤ 1000000000000000000 ∧ z.y.natAbs ≤ 1000000000000000000) (fun σ z => z.y.natAbs) .auto)) .auto) .auto))) (.two .auto (.two (.one (.loop Vg (fun σ z => [(10, ZF (zw 1000000000 z.x)), (11, ZF (zw 1000000000 z.y))]) (fun σ z => []) 0 (fun σ z => Nat.gcd z.x z.y = Zc a b ∧ (zw 1000000000 z.x).length ≤ 100000000 ∧ (zw 1000000000 z.y).length ≤ 100000000) (fun σ z => z.y) .auto)) .auto))))
def SC : List AV → Option (List zn × AV)
 | [.str a, .str b] => some ([.p (a.length ≤ 4294967280), .p (b.length ≤ 4294967280)], .tup 2 (zt [.str (bif zI a b != 0 then [] else Lib.itoa (Zc a b : Int)), .i (zI a b)]))
 | _ => none
theorem Kp (G : List (Nat × Obj)) (a : List UInt8) (b : List UInt8) (hla : a.length ≤ 4294967280) (hlb : b.length ≤ 4294967280) :
 let q2 := (zw 1000000000 (Int.natAbs (zV a))); let q3 := (zw 1000000000 (Int.natAbs (zV b))); ZY [AV.str a, AV.str b] → lN a ≤ nM ∧ lN b ≤ nM ∧ zY (zI a b != iZ) (j2 ∧ (True ∧ bA #[] = bif zI a b != iZ then [] else Lib.itoa (cI (Zc a b))) ∧ kI ∧ zI a b = zI a b) (zC a = true ∧ zC b = true ∧ (18 : Int) = (18 : Int) ∧ zY (leB (lZ a) (18 : Int) && leB (lZ b) (18 : Int)) ((∃ (z : Wx),
 ((Nat.gcd (Int.natAbs (Wx.x z)) (Int.natAbs (Wx.y z)) = Zc a b ∧ Int.natAbs (Wx.x z) ≤ 1000000000000000000 ∧ Int.natAbs (Wx.y z) ≤ 1000000000000000000) ∧ (kI ∧ (bif leB (lZ a) (18 : Int) && leB (lZ b) (18 : Int) then zV a else iZ) = Wx.x z) ∧ kI ∧ (bif leB (lZ a) (18 : Int) && leB (lZ b) (18 : Int) then zV b else iZ) = Wx.y z) ∧ True) ∧ ∀ (z : Wx), let q1 := (if -Wx.x z > Wx.x z then -Wx.x z else Wx.x z); Nat.gcd (Int.natAbs (Wx.x z)) (Int.natAbs (Wx.y z)) =
 Zc a b ∧ Int.natAbs (Wx.x z) ≤ 1000000000000000000 ∧ Int.natAbs (Wx.y z) ≤ 1000000000000000000 → zY (Wx.y z != iZ) (bF (DB.db (Wx.y z ≠ iZ)) (∃ (z' : Wx), (((Nat.gcd (Int.natAbs (Wx.x z')) (Int.natAbs (Wx.y z')) = Zc a b ∧ Int.natAbs (Wx.x z') ≤ 1000000000000000000 ∧ Int.natAbs (Wx.y z') ≤ 1000000000000000000) ∧ Int.natAbs (Wx.y z') < Int.natAbs (Wx.y z)) ∧ (kI ∧ Wx.y z = Wx.x z') ∧ kI ∧ Int.tmod (Wx.x z) (Wx.y z) = Wx.y z') ∧ True)) (bF (dK (-Wx.x z)) (((iN ≤ if -Wx.x z
 > Wx.x z then -Wx.x z else Wx.x z) ∧ q1 ≤ iX) ∧ j2 ∧ (True ∧ Lib.itoa q1 = bif zI a b != iZ then [] else Lib.itoa (cI (Zc a b))) ∧ kI ∧ iZ = zI a b))) (zC a = true ∧ lN a ≤ 100000000 ∧ zC b = true ∧ lN b ≤ 100000000 ∧ (∃ (z : Vg), ((Nat.gcd (Vg.x z) (Vg.y z) = Zc a b ∧ lN (zw 1000000000 (Vg.x z)) ≤ 100000000 ∧ lN (zw 1000000000 (Vg.y z)) ≤ 100000000) ∧ zB (AV.xl false 1 (lN q2) fun i j => aI (gD q2 i
 zi.dflt)) (xI (zw 1000000000 (Vg.x z))) ∧ (false = true → false = true) ∧ 1 = 1 ∧ lN (zw 1000000000 (Vg.y z)) = lN q3 ∧ ∀ (i j : Nat), i < lN q3 → j < 1 → kI ∧ gD q3 i zi.dflt = gD (zw 1000000000 (Vg.y z)) i zi.dflt) ∧ True) ∧ ∀ (z : Vg), let q4 := (lN (zw 1000000000 (Vg.y z))); let q6 := (lN (zw 1000000000 (Vg.x z))); let q5 := (AV.xl false 1 q6 fun i j => aI (List.getD
 (zw 1000000000 (Vg.x z)) i zi.dflt)); let q7 := (AV.xl false 1 q4 fun i j => aI (gD (zw 1000000000 (Vg.y z)) i zi.dflt)); let q8 := (zW q5); let q9 := (zW q7); let q10 := (zw 1000000000 (Int.toNat (zX iB q8) % Int.toNat (zX iB q9))); let q11 := (AV.agg 2 (zt [AV.v (Array.getD (Value.cells (Value.agg #[Value.bool false, Value.slice (wP Addr) 0 0])) 0 undef), AV.xl false 1 q6 fun i j => aI (gD (zw 1000000000 (Vg.x z)) i zi.dflt)])); let q13 := (Zi q11); let q12 := (Big.l q13);
 let q14 := (yG (Big.neg q13) q12); Nat.gcd (Vg.x z) (Vg.y z) = Zc a b ∧ lN (zw 1000000000 (Vg.x z)) ≤ 100000000 ∧ lN (zw 1000000000 (Vg.y z)) ≤ 100000000 → zY (zH iZ (cI q4)) (bF (Zy Int q5) (bF (Zy Int q7) ((∀ (x : Int), List.Mem x q8 → iZ ≤ x ∧ x < iB) ∧ (∀ (x : Int), List.Mem x q9 → iZ ≤ x ∧ x < iB) ∧ zO q8 = zW q5 ∧ zO q9 = zW q7 ∧ lN q9 ≠ 0 ∧ lN q8 ≤ 100000000 ∧ lN q9 ≤ 100000000 ∧ ∃ (z' : Vg), (((Nat.gcd (Vg.x z') (Vg.y z') = Zc a b ∧
 lN (zw 1000000000 (Vg.x z')) ≤ 100000000 ∧ lN (zw 1000000000 (Vg.y z')) ≤ 100000000) ∧ Vg.y z' < Vg.y z) ∧ zB q7 (xI (zw 1000000000 (Vg.x z'))) ∧ (false = true → false = true) ∧ 1 = 1 ∧ lN (zw 1000000000 (Vg.y z')) = lN q10 ∧ ∀ (i j : Nat), i < lN q10 → j < 1 → kI ∧ gD q10 i zi.dflt = gD (zw 1000000000 (Vg.y z')) i zi.dflt) ∧ True))) (bF (yZ Big q11) ((∀ (x : Int),
 List.Mem x q12 → iZ ≤ x ∧ x < iB) ∧ zO q12 = Big.l q13 ∧ lN q12 ≤ 100000000 ∧ j2 ∧ (True ∧ yp q14 = bif zI a b != iZ then [] else Lib.itoa (cI (Zc a b))) ∧ kI ∧ ZU q14 = zI a b)))) := by
 delta bF dK bA xI nM cI kI j2 lZ lN gD iZ iX iN iB aI
 dsimp only
 intro hb
 have e0 : (zi.dflt : Int) = 0 := rfl
 simp only [↓ZE, ↓ZR, row_one]
 simp only [sS, dS, e0, Yb, YW, Ym, yE, x8, YD, x5, YB, Y3, kP, xN, lj, L4, PM]
 refine ⟨by omega, by omega, fun hE => ⟨rfl, by rw [bne_iff_ne.2 hE]; rfl⟩, fun hE => ?_⟩
 obtain ⟨hA, hB⟩ := yg hE
 obtain ⟨a1, a2, a3⟩ := Zb hA
 obtain ⟨b1, b2, b3⟩ := Zb hB
 have la := Ww a1
 have lb := Ww b1
 have gl : Zc a b ≤ (zV a).natAbs + (zV b).natAbs := by
  unfold Zc
  by_cases h : (zV a).natAbs = 0
  ·rw [h, Nat.gcd_zero_left]; omega
  ·exact Nat.le_trans (Nat.le_of_dvd (by omega) (Nat.gcd_dvd_left _ _)) (by omega)
 have a4 := sj hA
 have b4 := sj hB
 have gl3 : Zc a b < 10 ^ 300 := by
  unfold Zc
  by_cases h : (zV a).natAbs = 0
  ·rw [h, Nat.gcd_zero_left]; exact b4
  ·exact Nat.lt_of_le_of_lt (Nat.le_of_dvd (by omega) (Nat.gcd_dvd_left _ _)) a4
 rw [hE]
 simp only [bne_self_eq_false, cond_false]
 refine ⟨a3, b3, zv.2 ⟨fun c => ?_, fun c => ?_⟩⟩
 ·rw [c]
  rw [Bool.and_eq_true] at c
  have x1 := JC a3 c.1
  have x2 := JC b3 c.2
  simp only [cond_true]
  refine ⟨⟨⟨zV a, zV b⟩, ⟨rfl, by simp only; omega, by simp only; omega⟩, rfl, rfl⟩, fun z ⟨z1, z2, z3⟩ => ⟨fun hy => ⟨hy, ⟨z.y, z.x.tmod z.y⟩, ⟨⟨?_, z3, ?_⟩, ?_⟩, rfl, rfl⟩, fun hy => ?_⟩⟩
  ·rw [Int.natAbs_tmod, ← wx (y := z.y.natAbs) (by omega), z1]
  ·rw [Int.natAbs_tmod]
   have : z.x.natAbs % z.y.natAbs ≤ z.x.natAbs := Nat.mod_le _ _
   omega
  ·rw [Int.natAbs_tmod]
   exact Nat.mod_lt _ (by omega)
  ·rw [hy, Int.natAbs_zero, Nat.gcd_zero_right] at z1
   rw [TM, z1]
   rw [z1] at z2
   exact ⟨⟨by omega, by omega⟩, ⟨by omega, by omega⟩, rfl, rfl, trivial⟩
 ·refine ⟨a3, by omega, b3, by omega, ⟨⟨(zV a).natAbs, (zV b).natAbs⟩, ⟨rfl, by simp only; omega, by simp only; omega⟩, zr _, fun h => h, rfl, fun _ _ _ _ => rfl⟩, fun z ⟨z1, z2, z3⟩ => ⟨fun hy => ?_, fun hy => ?_⟩⟩
  ·have hy0 : z.y ≠ 0 := fun e => by rw [e, ZN] at hy; exact absurd hy (by decide)
   have hm : z.x % z.y < z.y := Nat.mod_lt _ (by omega)
   have hlen := Zu (b := 1000000000) (m := z.x % z.y) (n := z.y) (by omega) (by omega)
   exact ⟨(Zg _).1, (Zg _).1, (Zg _).2, (Zg _).2, by omega, z2, z3, ⟨z.y, z.x % z.y⟩, ⟨⟨by rw [← wx hy0]; exact z1, z3, by simp only; omega⟩, hm⟩, zr _, fun h => h, rfl, fun _ _ _ _ => rfl⟩
  ·have hy0 := yb (b := 1000000000) (n := z.y) (by omega) (by omega)
   rw [hy0, Nat.gcd_zero_right] at z1
   rw [Wg, cond_false, z1]
   rw [z1] at z2
   obtain ⟨r1, r2⟩ := ZS (n := (Zc a b : Int)) (k := 300) (by omega) (by omega) (by rw [Int.natAbs_natCast]; exact gl3)
   rw [r1, r2]
   exact ⟨(Zg _).1, (Zg _).2, z2, rfl, rfl, rfl⟩
theorem IX {G : List (Nat × Obj)} (hG : zh G) (a : List UInt8) (b : List UInt8) (hla : a.length ≤ 4294967280) (hlb : b.length ≤ 4294967280) : zT Tryz.prog G 84 [.str a, .str b] (.tup 2 (zt [.str (bif zI a b != 0 then [] else Lib.itoa (Zc a b : Int)), .i (zI a b)])) :=
 zU (T := HX G) (an := jg a b) mixed (XY hG) (Eq.mp (by kernel_rfl) (Kp G a b hla hlb))
theorem Ml {G : List (Nat × Obj)} (hG : zh G) : zQ Tryz.prog G 84 SC := by
 intro xs ps r h hp
 unfold SC at h
 split at h
 ·skip
  rename_i a b
  cases h
  obtain ⟨q0, q1, -⟩ := Zo hp
  exact weaken (ys := [.str a, .str b]) ⟨zr _, zr _, trivial⟩ (IX hG a b q0 q1)
 ·cases h
end Go.Te

namespace Go.Te
open Go Go.Sx Go.Proofs Go.Ar
set_option maxRecDepth 100000
set_option maxHeartbeats 4000000
def Zm (a : zL) : zL := bif zk a then zg a else [49]
theorem xZ (n : Int) : ZX (Lib.itoa n) = ZU n := by
 obtain ⟨h1, h2⟩ := ya n
 have h3 := wH h1
 rw [h2] at h3
 unfold ZX ZU
 rw [h1, h3]
 rfl
theorem mZ {a : zL} (h : zN a = 0) : ZX (zp a) = 0 ∧ ZX (Zm a) = 0 ∧ zV (zp a) = zJ a ∧ zV (Zm a) = (zP a : Int) := by
 obtain ⟨h1, h2, h3, _⟩ := ZJ.1 h
 have hi : zC (zp a) = true := by
  unfold ZM at h1
  rw [Bool.and_eq_true] at h1
  exact h1.1
 refine ⟨Ze.2 ⟨hi, h2⟩, ?_, rfl, ?_⟩
 all_goals
  unfold Zm
  cases hs : zk a with
  | false =>
   first
    | (show ZX [49] = 0; exact Ze.2 (by decide))
    | (unfold zP; rw [hs]; show zV [49] = ((1 : Nat) : Int); decide)
  | true =>
   unfold ZM at h1
   rw [hs] at h1
   have hd : z6 (zg a) = true := by
    revert h1
    cases z6 (zg a) <;> simp
   obtain ⟨i1, i2⟩ := XV hd
   first
    | exact Ze.2 ⟨i1, Nat.le_trans (xB _).1 h3⟩
    | (unfold zP; rw [hs]; exact i2)
theorem HL (s : zL) : s.length ≤ (zu s).length + 1 := by
 unfold zu
 cases zG s with
 | true => rw [cond_true, List.length_drop]; omega
 | false => rw [cond_false]; omega
theorem rE (g : Nat) : (Lib.itoa (g : Int) == [49]) = Nat.beq g 1 := by
 rw [Go.Ar.ym, Bool.eq_iff_iff, beq_iff_eq, Nat.beq_eq]
 constructor
 ·intro h
  have := congrArg zm h
  rw [Zd] at this
  exact this
 ·intro h
  rw [h, z7 (by decide)]; rfl
theorem fF {a b : zL} (ha : zN a = 0) (hb : zN b = 0) : yI (fun x1 x2 => x1 * x2) (zp a) (Zm b) = ZU (zJ a * (zP b : Int)) ∧ YR (fun x1 x2 => x1 * x2) (zp a) (Zm b) = yp (zJ a * (zP b : Int)) := by
 obtain ⟨a1, a2, a3, a4⟩ := mZ ha
 obtain ⟨b1, b2, b3, b4⟩ := mZ hb
 have hE : zI (zp a) (Zm b) = 0 := by unfold zI; rw [a1, b2]; rfl
 obtain ⟨e1, e2⟩ := vm (f := fun x1 x2 => x1 * x2) hE
 rw [a3, b4] at e1 e2
 exact ⟨e2, e1⟩
theorem og {n m : Int} (hn : ZU n = 0) (hm : ZU m = 0) : x3 (yp n) (yp m) = Xk n m ∧ zI (yp n) (yp m) = 0 ∧ (yp n).length ≤ 4294967280 ∧ (yp m).length ≤ 4294967280 := by
 have e : ∀ k, ZU k = 0 → yp k = Lib.itoa k := fun k h => by unfold yp; rw [h]; rfl
 have l : ∀ k, ZU k = 0 → (Lib.itoa k).length ≤ 4294967280 := fun k h => by
  rw [WQ]
  have : ¬ 300 < TA k := fun e => by unfold ZU at h; rw [(zA _ _).2 e] at h; cases h
  split <;> omega
 rw [e n hn, e m hm]
 have hE : zI (Lib.itoa n) (Lib.itoa m) = 0 := by
  unfold zI
  rw [xZ, hn, xZ, hm]
  rfl
 refine ⟨?_, hE, l n hn, l m hm⟩
 unfold x3
 rw [hE, (ya n).2, (ya m).2]
 rfl
theorem Yf {a : zL} (h : Zw a = true) : zN a = 0 ∧ (zJ a).natAbs ≤ 99999999 ∧ zP a ≤ 99999999 := by
 obtain ⟨h1, h2, h3, h4⟩ := wz.1 h
 obtain ⟨g1, g2, g3⟩ := YP.1 h1
 have hr : zN a = 0 := by
  unfold Zw at h
  rw [Bool.and_eq_true, Bool.and_eq_true, beq_iff_eq] at h
  exact h.1.1
 have b := Yl g1 (k := 8) h2
 rw [show 10 ^ 8 = 100000000 from by decide] at b
 refine ⟨hr, by rw [WU]; omega, ?_⟩
 rw [(UH (a := a)).2]
 cases hs : zk (zu a) with
 | false => show 1 ≤ 99999999; decide
 | true =>
  have b := Yl (g3 hs).1 (k := 8) h3
  rw [show 10 ^ 8 = 100000000 from by decide] at b
  simp only [cond_true]
  omega
noncomputable def Es (G : List (Nat × Obj)) : Tb := ((((Vw G).plus 82 pj).plus 30 vf).plus 83 (YF fun s => .str (zu s))).plus 84 SC
theorem NM {G : List (Nat × Obj)} (hG : zh G) : zZ Tryz.prog (Es G) := zZ.plus (zZ.plus (zZ.plus (zZ.plus zq (zQ.mono iL)) (zQ.mono tC)) (zQ.mono Ui)) (Ml hG)
def XG : List AV → Option (List zn × AV)
 | [.str a] => some ([.p (a.length ≤ 9223372036854775807)], .tup 2 (zt [.agg 2 (zt [.str (bif zN a == 0 then zp a else []), .str (bif zN a == 0 then Zm a else [])]), .i (zN a)]))
 | _ => none
theorem lL (G : List (Nat × Obj)) (a : List UInt8) (hl : a.length ≤ 9223372036854775807) :
 let q2 := (True ∧ 2 = 2 ∧ (bA #[] = bif zN a == iZ then zp a else []) ∧ bA #[] = bif zN a == iZ then Zm a else []); let q1 := (j2 ∧ q2 ∧ kI ∧ (11 : Int) = zN a); let q4 := (bif ZM a then bif zk a then zg a else [(49 : UInt8)] else []); let q3 := (j2 ∧ (True ∧ 2 = 2 ∧ ((bif ZM a then zp a else []) = bif zN a == iZ then zp a else []) ∧ q4 = bif zN a == iZ then Zm a else []) ∧
 kI ∧ iZ = zN a); let q7 := (lZ (zu (bif ZM a then zp a else []))); let q6 := (zH (300 : Int) q7); let q5 := (!zS false q6 || zS false q6); let q8 := (ByteArray.data (ByteArray.mk #[(49 : UInt8)])); let q9 := (zI (bif ZM a then zp a else []) q4 != iZ); ZY [AV.str a] → lN a ≤ nX ∧ zY (!ZM a) q1 (lN a ≤ nX ∧ zY (Zw a) q3 (bF q5 (bF q5 (bF q5 (bF (!!zH (300 : Int) q7 || zS false q6) (zY (bif zH (300 : Int) q7 then true else zH (300 : Int)
 (lZ q4)) (j2 ∧ q2 ∧ kI ∧ (4 : Int) = zN a) (zY (q4 == Array.toList q8) q3 (lN (bif ZM a then zp a else []) ≤ nM ∧ lN q4 ≤ nM ∧ bF (!zS false q9 || zS false q9) (bF (!!zI (bif ZM a then zp a else []) q4 != iZ || zS false q9) (zY (bif zI (bif ZM a then zp a else []) q4 != iZ then true else !(bif zI (bif ZM a then zp a else []) q4 != iZ then [] else Lib.itoa (cI (Zc (bif ZM a then zp a else []) q4))) == Array.toList
 q8) q1 q3)))))))))) := by
 delta bF bA nX nM cI kI j2 lZ lN iZ
 dsimp only
 intro hb
 simp only [sS, dS, Za]
 have hFO := X9 a
 have hden : (bif zk a then zg a else [49]) = Zm a := rfl
 obtain ⟨o1, o2, o3, o4, o5, o6, o7⟩ := YH a
 refine ⟨hl, zv.2 ⟨fun c => ?_, fun c => ?_⟩⟩
 ·have c : ZM a = false := by simpa using c
  rw [c] at hFO
  rw [VE hFO.symm]
  exact ⟨rfl, ⟨rfl, rfl⟩, rfl⟩
 have c : ZM a = true := by simpa using c
 have hFO' : XQ a = true := hFO.symm.trans c
 simp only [c, cond_true, hden]
 have fin : zN a = 0 → 2 = [AV.junk, AV.junk].length ∧ ((zp a = bif zN a == 0 then zp a else []) ∧ Zm a = bif zN a == 0 then Zm a else []) ∧ 0 = zN a := fun h => by rw [h]; exact ⟨rfl, ⟨rfl, rfl⟩, rfl⟩
 have bad : ∀ e : Int, e ≠ 0 → zN a = e → 2 = [AV.junk, AV.junk].length ∧ (([] = bif zN a == 0 then zp a else []) ∧ [] = bif zN a == 0 then Zm a else []) ∧ e = zN a := fun e h0 h => by
  rw [h, beq_eq_false_iff_ne.2 h0]; exact ⟨rfl, ⟨rfl, rfl⟩, rfl⟩
 have hlen : (zu (zp a)).length = (zp (zu a)).length := by rw [← (SG (zp a)).2, o5]
 have hcd := Ya a
 have hdd := Vp a
 refine ⟨hl, zv.2 ⟨fun k => fin (Yf k).1, fun k => zv.2 ⟨fun k2 => bad 4 (by decide) (sT hFO' ?_), fun k2 => zv.2 ⟨fun k3 => ?_, fun k3 => ?_⟩⟩⟩⟩
 ·rw [Bool.or_eq_true, zR, zR, hlen] at k2
  rcases k2 with k2 | k2
  ·exact .inl (by omega)
  ·refine .inr ?_
   rw [← o2]
   unfold Zm at k2
   cases hs : zk a with
   | true => rw [hs, cond_true] at k2; omega
   | false => rw [hs, cond_false] at k2; exact absurd k2 (by decide)
 ·have hs : zk a = false := by
   cases hs : zk a with
   | false => rfl
   | true =>
    unfold Zm at k3
    rw [hs, cond_true] at k3
    have := (YP.1 hFO').2.2 (by rw [← o3]; exact hs)
    rw [← o2] at this
    exact absurd (eq_of_beq k3) this.2.2
  rw [Bool.or_eq_false_iff, Bool.eq_false_iff, Ne, zR, hlen] at k2
  exact fin (tO hFO' (by omega) (by rw [← o3]; exact hs))
 ·have hs : zk a = true := by
   cases hs : zk a with
   | true => rfl
   | false => unfold Zm at k3; rw [hs] at k3; cases k3
  have hdS : Zm a = zg a := by unfold Zm; rw [hs]; rfl
  rw [hdS] at k2 bad fin ⊢
  rw [Bool.or_eq_false_iff, Bool.eq_false_iff, Bool.eq_false_iff, Ne, Ne, zR, zR, hlen] at k2
  have e2 := VJ hFO' ⟨by omega, by rw [← o2]; omega⟩ (by rw [← o3]; exact hs)
  have g := (YP.1 hFO').2.2 (by rw [← o3]; exact hs)
  rw [← o2] at g e2
  obtain ⟨i1, i2⟩ := XV g.1
  have hi : zC (zp a) = true := by
   have := c
   unfold ZM at this
   rw [Bool.and_eq_true] at this
   exact this.1
  have hE : zI (zp a) (zg a) = 0 := by
   have l2 := (xB (zg a)).1
   have q1 : ZX (zp a) = 0 := Ze.2 ⟨hi, by rw [o5]; omega⟩
   have q2 : ZX (zg a) = 0 := Ze.2 ⟨i1, by omega⟩
   unfold zI
   rw [q1, q2]; rfl
  have hg : Zc (zp a) (zg a) = Nat.gcd (zm (zp (zu a))) (zm (zg a)) := by
   unfold Zc
   rw [i2, Int.natAbs_natCast, ← WU]
   rfl
  have hge := HL (zp a)
  rw [hE]
  simp only [bne_self_eq_false, cond_false, Bool.false_or, rE, hg]
  refine ⟨by omega, by omega, zv.2 ⟨fun k4 => bad 11 (by decide) ?_, fun k4 => ?_⟩⟩
  ·rw [e2, show Nat.beq (Nat.gcd (zm (zp (zu a))) (zm (zg a))) 1 = false by rw [Bool.not_eq_true'] at k4; exact k4]; rfl
  ·exact fin (by rw [e2, show Nat.beq (Nat.gcd (zm (zp (zu a))) (zm (zg a))) 1 = true by rw [Bool.not_eq_false'] at k4; exact k4]; rfl)
theorem jF {G : List (Nat × Obj)} (hG : zh G) (a : List UInt8) (hl : a.length ≤ 9223372036854775807) : zT Tryz.prog G 32 [.str a] (.tup 2 (zt [.agg 2 (zt [.str (bif zN a == 0 then zp a else []), .str (bif zN a == 0 then Zm a else [])]), .i (zN a)])) :=
 zU (T := Es G) (an := .auto) mixed (NM hG) (Eq.mp (by kernel_rfl) (lL G a hl))
theorem vX {G : List (Nat × Obj)} (hG : zh G) : zQ Tryz.prog G 32 XG := by
 intro xs ps r h hp
 unfold XG at h
 split at h
 ·skip
  rename_i a
  cases h
  obtain ⟨q0, -⟩ := Zo hp
  exact weaken (ys := [.str a]) ⟨zr _, trivial⟩ (jF hG a q0)
 ·cases h
theorem Kb (G : List (Nat × Obj)) (a : List UInt8) (hl : a.length ≤ 9223372036854775807) :
 ZY [AV.str a] → lN a ≤ nX ∧ kI ∧ zN a = zN a := by
 delta nX kI lN
 intro hb
 simp only [sS, dS, Za]
 exact hl
theorem I1 {G : List (Nat × Obj)} (hG : zh G) (a : List UInt8) (hl : a.length ≤ 9223372036854775807) : zT Tryz.prog G 29 [.str a] (.i (zN a)) :=
 zU (T := (Vw G).plus 32 XG) (an := .auto) mixed (zZ.plus zq (vX hG)) (Eq.mp (by kernel_rfl) (Kb G a hl))
def Y2 (a b : zL) : Int := bif zN a != 0 then zN a else bif zN b != 0 then zN b else bif ZU (zJ a * (zP b : Int)) != 0 then ZU (zJ a * (zP b : Int)) else ZU (zJ b * (zP a : Int))
def WJ (a b : zL) : Int := bif Y2 a b == 0 then Xk (zJ a * (zP b : Int)) (zJ b * (zP a : Int)) else 0
noncomputable def Gy (G : List (Nat × Obj)) : Tb := (((((Vw G).plus 32 XG).plus 30 vf).plus 43 vI).plus 34 PH).plus 31 SE
theorem pI {G : List (Nat × Obj)} (hG : zh G) : zZ Tryz.prog (Gy G) := zZ.plus (zZ.plus (zZ.plus (zZ.plus (zZ.plus zq (vX hG)) (zQ.mono tC)) (Tf hG)) (Hz hG)) (zQ.mono MR)
noncomputable def Ep (G : List (Nat × Obj)) : Tb := (Gy G).body Tryz.prog [(33, .auto)]
theorem NU {G : List (Nat × Obj)} (hG : zh G) : zZ Tryz.prog (Ep G) := zZ.body mixed (pI hG) _
theorem Ku (G : List (Nat × Obj)) (a : List UInt8) (b : List UInt8) (hla : a.length ≤ 9223372036854775807) (hlb : b.length ≤ 9223372036854775807) :
 let q1 := ((bif Zw a then zJ a else iZ) * bif Zw b then (cI (zP b)) else iZ); let q2 := ((bif Zw b then zJ b else iZ) * bif Zw a then (cI (zP a)) else iZ); let q4 := (True ∧ kI ∧ iZ = WJ a b); let q5 := (bif zN a == iZ then zp a else []); let q6 := (bif zN b == iZ then Zm b else []); let q7 := (yI (fun (x1 x2 : Int) => x1 * x2) q5 q6 != iZ); let q8 := (bA #[]); let q9 := (bif zN b == iZ then zp b else []); let q10 := (bif zN a == (0 :
 Int) then Zm a else []); let q11 := (YR (fun (x1 x2 : Int) => x1 * x2) q5 q6); let q12 := (YR (fun (x1 x2 : Int) => x1 * x2) q9 q10); let q3 := (lN a ≤ nX ∧ zY (zN a != iZ) (j2 ∧ q4 ∧ kI ∧ zN a = Y2 a b) (lN b ≤ nX ∧ zY (zN b != iZ) (j2 ∧ q4 ∧ kI ∧ zN b = Y2 a b) (lN q5 ≤ nM ∧ lN q6 ≤ nM ∧ zY q7 (zY q7 (j2 ∧ q4 ∧ kI ∧ yI
 (fun (x1 x2 : Int) => x1 * x2) q5 q6 = Y2 a b) (0 ≤ nM ∧ 0 ≤ nM ∧ j2 ∧ (True ∧ kI ∧ x3 q8 q8 = WJ a b) ∧ kI ∧ zI q8 q8 = Y2 a b)) (lN q9 ≤ nM ∧ lN q10 ≤ nM ∧ zY (yI (fun (x1 x2 : Int) => x1 * x2) q9 q10 != iZ) (j2 ∧ q4 ∧ kI ∧ yI (fun (x1 x2 : Int) => x1 * x2) q9 q10 = Y2 a b) (lN q11 ≤ nM ∧ lN q12 ≤ nM ∧ j2 ∧ (True ∧ kI ∧ x3 q11
 q12 = WJ a b) ∧ kI ∧ zI q11 q12 = Y2 a b))))); ZY [AV.str a, AV.str b] → lN a ≤ nX ∧ zY (Zw a) (lN b ≤ nX ∧ zY (Zw b) (bF (dK q1) (bF (dK q2) (j2 ∧ (True ∧ kI ∧ Xk q1 q2 = WJ a b) ∧ kI ∧ iZ = Y2 a b))) q3) q3 := by
 delta bF dK bA nX nM cI kI j2 lN iZ
 dsimp only
 intro hb
 simp only [sS, dS, Za]
 have ncd := Ya a
 have ncb := Ya b
 have dl : ∀ a : zL, zN a = 0 → (Zm a).length ≤ 301 := fun a h => by have := (ZJ.1 h).2.2.1; unfold Zm; cases zk a <;> simp <;> omega
 have eA : zN a ≠ 0 → 0 = WJ a b ∧ zN a = Y2 a b := fun h => by
  have e : Y2 a b = zN a := by unfold Y2; rw [bne_iff_ne.2 h]; rfl
  unfold WJ
  rw [e, beq_eq_false_iff_ne.2 h]
  exact ⟨rfl, rfl⟩
 have eB : zN a = 0 → zN b ≠ 0 → 0 = WJ a b ∧ zN b = Y2 a b := fun h0 h => by
  have e : Y2 a b = zN b := by unfold Y2; rw [h0, bne_iff_ne.2 h]; rfl
  unfold WJ
  rw [e, beq_eq_false_iff_ne.2 h]
  exact ⟨rfl, rfl⟩
 have eC : zN a = 0 → zN b = 0 → ZU (zJ a * (zP b : Int)) ≠ 0 → 0 = WJ a b ∧ ZU (zJ a * (zP b : Int)) = Y2 a b := fun h0 h1 h => by
  have e : Y2 a b = ZU (zJ a * (zP b : Int)) := by unfold Y2; rw [h0, h1, bne_iff_ne.2 h]; rfl
  unfold WJ
  rw [e, beq_eq_false_iff_ne.2 h]
  exact ⟨rfl, rfl⟩
 have eD : zN a = 0 → zN b = 0 → ZU (zJ a * (zP b : Int)) = 0 → Y2 a b = ZU (zJ b * (zP a : Int)) := fun h0 h1 h => by
  unfold Y2; rw [h0, h1, h]; rfl
 have big : zN a = 0 → zN b = 0 → _ := fun h0 h1 => And.intro (fF h0 h1) (fF h1 h0)
 refine ⟨hla, zv.2 ⟨fun c => ⟨hlb, zv.2 ⟨fun c2 => ?_, fun c2 => ?_⟩⟩, fun c => ?_⟩⟩
 ·obtain ⟨a1, a2, a3⟩ := Yf c
  obtain ⟨b1, b2, b3⟩ := Yf c2
  rw [c, c2]
  simp only [cond_true]
  have m1 : (zJ a * (zP b : Int)).natAbs ≤ 99999999 * 99999999 := by rw [Int.natAbs_mul, Int.natAbs_natCast]; exact Nat.mul_le_mul a2 b3
  have m2 : (zJ b * (zP a : Int)).natAbs ≤ 99999999 * 99999999 := by rw [Int.natAbs_mul, Int.natAbs_natCast]; exact Nat.mul_le_mul b2 a3
  obtain ⟨r1, r2⟩ := ZS (n := zJ a * (zP b : Int)) (k := 20) (by omega) (by omega) (by omega)
  obtain ⟨r3, r4⟩ := ZS (n := zJ b * (zP a : Int)) (k := 20) (by omega) (by omega) (by omega)
  have e := eD a1 b1 r2
  rw [r4] at e
  unfold WJ
  rw [e]
  exact ⟨⟨by omega, by omega⟩, ⟨by omega, by omega⟩, rfl, rfl, rfl⟩
 all_goals
  refine ⟨hla, fun h => ⟨rfl, eA h⟩, fun h0 => ⟨hlb, fun h => ⟨rfl, eB h0 h⟩, fun h1 => ?_⟩⟩
  obtain ⟨⟨p1, p2⟩, p3, p4⟩ := big h0 h1
  have dla := dl a h0
  have dlb := dl b h1
  have nla := (ZJ.1 h0).2.1
  have nlb := (ZJ.1 h1).2.1
  have ll1 := (xB (zp a)).2
  have ll2 := (xB (zp b)).2
  rw [h0, h1]
  simp only [beq_self_eq_true, cond_true, p1, p2, p3, p4]
  refine ⟨by omega, by omega, fun h => ⟨fun _ => ⟨rfl, eC h0 h1 h⟩, fun h2 => absurd h2 h⟩, fun h => ⟨by omega, by omega, fun h2 => ?_, fun h2 => ?_⟩⟩
  ·have e := eD h0 h1 h
   unfold WJ
   rw [e, beq_eq_false_iff_ne.2 h2]
   exact ⟨rfl, rfl, rfl⟩
  ·have e := eD h0 h1 h
   rw [h2] at e
   obtain ⟨q1, q2, q3, q4⟩ := og h h2
   unfold WJ
   rw [e, q1, q2]
   exact ⟨q3, q4, rfl, rfl, rfl⟩
theorem Iq {G : List (Nat × Obj)} (hG : zh G) (a : List UInt8) (b : List UInt8) (hla : a.length ≤ 9223372036854775807) (hlb : b.length ≤ 9223372036854775807) : zT Tryz.prog G 12 [.str a, .str b] (.tup 2 (zt [.i (WJ a b), .i (Y2 a b)])) :=
 zU (T := Ep G) (an := .auto) mixed (NU hG) (Eq.mp (by kernel_rfl) (Ku G a b hla hlb))
end Go.Te

namespace Go.Te
open Go Go.Sx Go.Proofs Go.Ar
set_option maxRecDepth 100000
set_option maxHeartbeats 4000000
structure Nt where
 n : Int
 d : Int
instance : zi Nt := ⟨2, ⟨0, 0⟩, fun c => zt [.i c.n, .i c.d], fun cs => ⟨AV.int (cs 0), AV.int (cs 1)⟩, fun cs => Yz (cs 0) && Yz (cs 1), fun cs h j hj => by
 simp only [Bool.and_eq_true] at h
 match j, hj with
 | 0, _ => exact ZA (TU h.1)
 | 1, _ => exact ZA (TU h.2)⟩
instance : xD Nt := ⟨fun _ => rfl, fun _ => rfl⟩
def xR (n d : Int) : zL := bif zH d 0 then yY (-n) (-d).toNat else yY n d.toNat
theorem M6 (n : Int) {d : Int} (hd : 0 < d) : Wp (if -n > n then -n else n) d = (Nat.gcd n.natAbs d.toNat : Int) := by
 have e : (if -n > n then -n else n) = (n.natAbs : Int) := by split <;> omega
 unfold Wp
 rw [e, (ze _ _).2 (show (0 : Int) ≤ (n.natAbs : Int) by omega), (ze _ _).2 (show 0 ≤ d by omega), Int.toNat_natCast]
 rfl
theorem ov (n : Int) {d : Int} (hd : 0 < d) : (0 : Int) < (Nat.gcd n.natAbs d.toNat : Int) ∧ n.tdiv (Nat.gcd n.natAbs d.toNat : Int) = n / (Nat.gcd n.natAbs d.toNat : Int) ∧ d.tdiv (Nat.gcd n.natAbs d.toNat : Int) = ((d.toNat / Nat.gcd n.natAbs d.toNat : Nat) : Int) ∧ (n / (Nat.gcd n.natAbs d.toNat : Int)).natAbs ≤ n.natAbs ∧ 0 < d.toNat / Nat.gcd n.natAbs d.toNat ∧ d.toNat / Nat.gcd n.natAbs d.toNat ≤ d.toNat := by
 have hg : 0 < Nat.gcd n.natAbs d.toNat := Nat.gcd_pos_of_pos_right _ (by omega)
 have hdv := Nat.gcd_dvd_right n.natAbs d.toNat
 have hnv : ((Nat.gcd n.natAbs d.toNat : Nat) : Int) ∣ n := Int.ofNat_dvd_left.2 (Nat.gcd_dvd_left _ _)
 generalize Nat.gcd n.natAbs d.toNat = g at *
 have e1 : n.tdiv (g : Int) = n / (g : Int) := Int.tdiv_eq_ediv_of_dvd hnv
 refine ⟨by omega, e1, ?_, ?_, Nat.div_pos (Nat.le_of_dvd (by omega) hdv) hg, Nat.div_le_self _ _⟩
 ·rw [Int.tdiv_eq_ediv_of_nonneg (by omega), Int.natCast_ediv]
  congr 1
  omega
 ·rw [← e1]; exact Int.natAbs_tdiv_le_natAbs n g
theorem QR (n : Int) (d : Nat) : (d / Nat.gcd n.natAbs d = 1 → Lib.itoa (n / (Nat.gcd n.natAbs d : Int)) = yY n d) ∧ (d / Nat.gcd n.natAbs d ≠ 1 → Lib.itoa (n / (Nat.gcd n.natAbs d : Int)) ++ [47] ++ Lib.itoa ((d / Nat.gcd n.natAbs d : Nat) : Int) = yY n d) := by
 unfold yY wV
 refine ⟨fun h => ?_, fun h => ?_⟩
 ·rw [h]
  exact (List.append_nil _).symm
 ·rw [show Nat.beq (d / Nat.gcd n.natAbs d) 1 = false from Bool.eq_false_iff.2 fun e => h (Nat.eq_of_beq_eq_true e), Go.Ar.ym]
  simp
theorem OK {n : Int} (h : n.natAbs < 10 ^ 20) : (Lib.itoa n).length ≤ 21 := by
 rw [WQ]
 have : TA n ≤ 20 := rh (by omega) h
 split <;> omega
def SH : List AV → Option (List zn × AV)
 | [.agg 2 p_x] => some ([.b (Yz (p_x 0) && Yz (p_x 1)), .p ((⟨AV.int (p_x 0), AV.int (p_x 1)⟩ : Nt).d ≠ 0), .p (-1000000000000000000 ≤ (⟨AV.int (p_x 0), AV.int (p_x 1)⟩ : Nt).d ∧ (⟨AV.int (p_x 0), AV.int (p_x 1)⟩ : Nt).d ≤ 1000000000000000000), .p (-1000000000000000000 ≤ (⟨AV.int (p_x 0), AV.int (p_x 1)⟩ : Nt).n ∧ (⟨AV.int (p_x 0), AV.int (p_x 1)⟩ : Nt).n ≤ 1000000000000000000)], .str (xR (⟨AV.int (p_x 0), AV.int (p_x 1)⟩ : Nt).n (⟨AV.int (p_x 0), AV.int (p_x 1)⟩ : Nt).d))
 | _ => none
theorem Jp (G : List (Nat × Obj)) (x : Nt) (h0 : x.d ≠ 0) (h1 : -1000000000000000000 ≤ x.d ∧ x.d ≤ 1000000000000000000) (h2 : -1000000000000000000 ≤ x.n ∧ x.n ≤ 1000000000000000000) :
 let q1 := (if - -Nt.n x > -Nt.n x then - -Nt.n x else -Nt.n x); let q2 := (DB.db (Wp q1 (-Nt.d x) ≠ iZ)); let q4 := (Wp q1 (-Nt.d x)); let q3 := (Int.tdiv (-Nt.n x) q4); let q5 := (Int.tdiv (-Nt.d x) q4); let q6 := (iN ≤ Int.tdiv (-Nt.n x) q4 ∧ Int.tdiv (-Nt.n x) q4 ≤ iX); let q7 := (ByteArray.data (ByteArray.mk #[(47 : UInt8)])); let q8 := (if -Nt.n x > Nt.n x then -Nt.n x else Nt.n x); let q9 := (DB.db (Wp q8 (Nt.d x) ≠ iZ)); let q11 := (Wp q8 (Nt.d x)); let q10 := (Int.tdiv (Nt.n x) q11); let q12 := (Int.tdiv (Nt.d x)
 q11); let q13 := (iN ≤ Int.tdiv (Nt.n x) q11 ∧ Int.tdiv (Nt.n x) q11 ≤ iX); ZY [AV.agg 2 (zi.enc x)] → zY (zH (Nt.d x) iZ) (bF (dK (-Nt.n x)) (bF (dK (-Nt.d x)) (bF (dK (- -Nt.n x)) (((iZ ≤ if - -Nt.n x > -Nt.n x then - -Nt.n x else -Nt.n x) ∧ q1 ≤ iX) ∧ (iZ ≤ -Nt.d x ∧ -Nt.d x ≤ iX) ∧ bF q2 (bF (dK q3) (bF q2 (bF (dK q5) (zY (Int.tdiv (-Nt.d x) q4 == iO) (q6
 ∧ Lib.itoa q3 = xR (Nt.n x) (Nt.d x)) (q6 ∧ bF (DB.db (lN (Lib.itoa q3) + 1 ≤ nX)) ((iN ≤ Int.tdiv (-Nt.d x) q4 ∧ Int.tdiv (-Nt.d x) q4 ≤ iX) ∧ bF (DB.db (lN (Lib.itoa q3 ++ Array.toList q7) + lN (Lib.itoa q5) ≤ nX)) (Lib.itoa q3 ++ Array.toList q7 ++ Lib.itoa q5 = xR (Nt.n x) (Nt.d x)))))))))))) (bF (dK (-Nt.n x)) (((iZ ≤ if -Nt.n x > Nt.n x then -Nt.n x else Nt.n x) ∧ q8 ≤ (9223372036854775807 :
 Int)) ∧ (iZ ≤ Nt.d x ∧ Nt.d x ≤ iX) ∧ bF q9 (bF (dK q10) (bF q9 (bF (dK q12) (zY (Int.tdiv (Nt.d x) q11 == iO) (q13 ∧ Lib.itoa q10 = xR (Nt.n x) (Nt.d x)) (q13 ∧ bF (DB.db (lN (Lib.itoa q10) + 1 ≤ nX)) ((iN ≤ Int.tdiv (Nt.d x) q11 ∧ Int.tdiv (Nt.d x) q11 ≤ iX) ∧ bF (DB.db (lN (Lib.itoa q10 ++ Array.toList q7) + lN (Lib.itoa q12) ≤ nX)) (Lib.itoa q10 ++ Array.toList q7 ++ Lib.itoa q12 = xR
 (Nt.n x) (Nt.d x)))))))))) := by
 delta bF dK nX lN iZ iO iX iN
 dsimp only
 intro hb
 simp only [sS, dS]
 have key : ∀ n d : Int, 0 < d → d ≤ 1000000000000000000 → -1000000000000000000 ≤ n ∧ n ≤ 1000000000000000000 → _ := fun n d hd hd1 hn => And.intro (M6 n hd) (And.intro (ov n hd) (QR n d.toNat))
 refine ⟨fun hd => ?_, fun hd => ?_⟩
 ·obtain ⟨k1, ⟨k2, k3, k4, k5, k6, k7⟩, k8, k9⟩ := key (-x.n) (-x.d) (by omega) (by omega) ⟨by omega, by omega⟩
  have hs : xR x.n x.d = yY (-x.n) (-x.d).toNat := by unfold xR; rw [(zR _ _).2 hd]; rfl
  rw [k1, k3, k4, hs]
  generalize yY (-x.n) (-x.d).toNat = R at *
  generalize Nat.gcd (-x.n).natAbs (-x.d).toNat = g at *
  generalize (-x.n) / (g : Int) = q at *
  generalize (-x.d).toNat / g = e at *
  have l1 := OK (n := q) (by omega)
  have l2 := OK (n := (e : Int)) (by omega)
  refine ⟨⟨by omega, by omega⟩, ⟨by omega, by omega⟩, ⟨by omega, by omega⟩, ⟨by split <;> omega, by split <;> omega⟩, ⟨by omega, by omega⟩, by omega, ⟨by omega, by omega⟩, by omega, ⟨by omega, by omega⟩, fun h => ⟨⟨by omega, by omega⟩, k8 (by omega)⟩, fun h => ⟨⟨by omega, by omega⟩, by omega, ⟨by omega, by omega⟩, by rw [List.length_append, List.length_singleton]; omega, k9 (by omega)⟩⟩
 ·obtain ⟨k1, ⟨k2, k3, k4, k5, k6, k7⟩, k8, k9⟩ := key x.n x.d (by omega) (by omega) h2
  have hs : xR x.n x.d = yY x.n x.d.toNat := by unfold xR; rw [show zH x.d 0 = false from Bool.eq_false_iff.2 fun e => by have := (zR _ _).1 e; omega]; rfl
  rw [k1, k3, k4, hs]
  generalize yY x.n x.d.toNat = R at *
  generalize Nat.gcd x.n.natAbs x.d.toNat = g at *
  generalize x.n / (g : Int) = q at *
  generalize hD : x.d.toNat / g = e at *
  have l1 := OK (n := q) (by omega)
  have l2 := OK (n := (e : Int)) (by omega)
  refine ⟨⟨by omega, by omega⟩, ⟨by split <;> omega, by split <;> omega⟩, ⟨by omega, by omega⟩, by omega, ⟨by omega, by omega⟩, by omega, ⟨by omega, by omega⟩, fun h => ⟨⟨by omega, by omega⟩, k8 (by omega)⟩, fun h => ⟨⟨by omega, by omega⟩, by omega, ⟨by omega, by omega⟩, by rw [List.length_append, List.length_singleton]; omega, k9 (by omega)⟩⟩
theorem I6 {G : List (Nat × Obj)} (hG : zh G) (x : Nt) (h0 : x.d ≠ 0) (h1 : -1000000000000000000 ≤ x.d ∧ x.d ≤ 1000000000000000000) (h2 : -1000000000000000000 ≤ x.n ∧ x.n ≤ 1000000000000000000) : zT Tryz.prog G 98 [yw x] (.str (xR x.n x.d)) :=
 zU (T := (Kk G).plus 80 Ry) (an := .auto) mixed (zZ.plus (Yj hG) (zQ.mono Mx)) (Eq.mp (by kernel_rfl) (Jp G x h0 h1 h2))
theorem lK {G : List (Nat × Obj)} (hG : zh G) : zQ Tryz.prog G 98 SH := by
 intro xs ps r h hp
 unfold SH at h
 split at h
 ·skip
  rename_i p_x
  cases h
  obtain ⟨q0, q1, q2, q3, -⟩ := Zo hp
  exact weaken (ys := [yw (⟨AV.int (p_x 0), AV.int (p_x 1)⟩ : Nt)]) ⟨zc (x := .agg 2 p_x) (α := Nt) q0, trivial⟩ (I6 hG (⟨AV.int (p_x 0), AV.int (p_x 1)⟩ : Nt) q1 q2 q3)
 ·cases h
def yo (s : zL) : zL := bif s == [48] then s else bif zG s then zu s else 45 :: s
def Pe : List AV → Option (List zn × AV)
 | [.str s] => some ([.p (s.length ≤ 4294967280)], .str (yo s))
 | _ => none
theorem jl (s : List UInt8) (hl : s.length ≤ 4294967280) :
 ZY [AV.str s] → zY (s == bA #[(48 : UInt8)]) (s = yo s) (zY (zG s) (zu s = yo s) (bF (DB.db (1 + lN s ≤ nX)) (bA #[(45 : UInt8)] ++ s = yo s))) := by
 delta bF bA nX lN
 intro hb
 simp only [sS, dS]
 unfold yo
 refine zv.2 ⟨fun c => by rw [c]; rfl, fun c => zv.2 ⟨fun c2 => by rw [c, c2]; rfl, fun c2 => ⟨by omega, by rw [c, c2]; rfl⟩⟩⟩
theorem Iy (s : List UInt8) (hl : s.length ≤ 4294967280) : zT Tryz.prog [] 103 [.str s] (.str (yo s)) :=
 zU (T := T0.plus 129 (YF fun s => .tup 2 (zt [.str (zu s), .b (zG s)]))) (an := .auto) mixed (zZ.plus zq pD) (Eq.mp (by kernel_rfl) (jl s hl))
theorem IT : zQ Tryz.prog [] 103 Pe := by
 intro xs ps r h hp
 unfold Pe at h
 split at h
 ·skip
  rename_i s
  cases h
  obtain ⟨q0, -⟩ := Zo hp
  exact weaken (ys := [.str s]) ⟨zr _, trivial⟩ (Iy s q0)
 ·cases h
theorem qz {s : zL} (h : ZX s = 0) : ZX (yo s) = 0 ∧ zV (yo s) = -zV s ∧ (yo s).length ≤ 302 := by
 obtain ⟨h1, h2⟩ := Ze.1 h
 have e : yo s = Lib.itoa (-zV s) := by
  unfold yo
  by_cases h0 : s = [48]
  ·subst h0
   show [48] = Lib.itoa ((0 : Nat) : Int)
   rw [Go.Ar.ym, z7 (by omega)]; rfl
  rw [beq_eq_false_iff_ne.2 h0, cond_false]
  rcases yQ h1 with ⟨r, rfl, g1, g2, g3⟩ | ⟨g1, g3⟩
  ·rw [g3, Int.neg_neg, Go.Ar.ym, Zl g1]
   rfl
  ·have hm : zG s = false := by
    cases hm : zG s with
    | false => rfl
    | true =>
     match s, hm, g1 with
     | c :: r, hm, g1 =>
      have hc : c = 45 := eq_of_beq hm
      subst hc
      exact (wJ g1).elim
   have hz : zm s ≠ 0 := fun hz => h0 (uw g1 hz)
   rw [hm, cond_false, g3, Go.Ar.itoa_neg hz, Zl g1]
 have hl := (xB (yo s)).2
 have hE : ZX (yo s) = 0 := by
  rw [e, xZ]
  unfold ZU TA
  rw [Int.natAbs_neg]
  rw [wH h1] at h2
  unfold TA at h2
  rw [show Nat.blt 300 (Lib.nDigits (zV s).natAbs) = false from Bool.eq_false_iff.2 fun e => by have := (zA _ _).1 e; omega]
  rfl
 exact ⟨hE, by rw [e, (ya _).2], by have := (Ze.1 hE).2; omega⟩
theorem lH {N : Int} {D : Nat} {n d : zL} (hn : n = Lib.itoa (N / (Nat.gcd N.natAbs D : Int))) (hd : d = Lib.itoa ((D / Nat.gcd N.natAbs D : Nat) : Int)) (ln : n.length ≤ 400) (ld : d.length ≤ 400) :
  zY (d == [49]) (2 = [AV.junk, AV.junk].length ∧ n = yY N D) (n.length + 1 ≤ 9223372036854775807 ∧ (n ++ [47]).length + d.length ≤ 9223372036854775807 ∧ 2 = [AV.junk, AV.junk].length ∧ n ++ [47] ++ d = yY N D) := by
 obtain ⟨s1, s2⟩ := QR N D
 have e := rE (D / Nat.gcd N.natAbs D)
 rw [← hd] at e
 refine zv.2 ⟨fun c => ⟨rfl, ?_⟩, fun c => ⟨by omega, by rw [List.length_append, List.length_singleton]; omega, rfl, ?_⟩⟩
 ·rw [c] at e
  rw [hn]; exact s1 (Nat.eq_of_beq_eq_true e.symm)
 ·rw [c] at e
  rw [hn, hd]; exact s2 fun h => by rw [h] at e; cases e
theorem IW {n d : zL} (hn : ZX n = 0) (hd : ZX d = 0) (hp : 0 < zV d) : zI n d = 0 ∧ (Lib.itoa (Zc n d : Int)).length ≤ 400 ∧ n.length ≤ 400 ∧ d.length ≤ 400 ∧
  zY (!Lib.itoa (Zc n d : Int) == [49])
   (zY (yF d (Lib.itoa (Zc n d : Int)) == [49]) (2 = [AV.junk, AV.junk].length ∧ yF n (Lib.itoa (Zc n d : Int)) = yY (zV n) (zV d).toNat)
    (List.length (yF n (Lib.itoa (Zc n d : Int))) + 1 ≤ 9223372036854775807 ∧ List.length (yF n (Lib.itoa (Zc n d : Int)) ++ [47]) + List.length (yF d (Lib.itoa (Zc n d : Int))) ≤ 9223372036854775807 ∧
     2 = [AV.junk, AV.junk].length ∧ yF n (Lib.itoa (Zc n d : Int)) ++ [47] ++ yF d (Lib.itoa (Zc n d : Int)) = yY (zV n) (zV d).toNat))
   (zY (d == [49]) (2 = [AV.junk, AV.junk].length ∧ n = yY (zV n) (zV d).toNat) (n.length + 1 ≤ 9223372036854775807 ∧ (n ++ [47]).length + d.length ≤ 9223372036854775807 ∧ 2 = [AV.junk, AV.junk].length ∧ n ++ [47] ++ d = yY (zV n) (zV d).toNat)) := by
 have hb : zI n d = 0 := by unfold zI; rw [hn, hd]; rfl
 obtain ⟨n1, n2, n3⟩ := Zb hn
 obtain ⟨d1, d2, d3⟩ := Zb hd
 have n4 := sj hn
 have d4 := sj hd
 have eD : (zV d).natAbs = (zV d).toNat := by omega
 have hg : Zc n d = Nat.gcd (zV n).natAbs (zV d).toNat := by unfold Zc; rw [eD]
 obtain ⟨g1, g2, g3, g4, g5, g6⟩ := ov (zV n) hp
 rw [← hg] at g1 g2 g3 g4 g5 g6
 have gl : Zc n d ≤ (zV d).natAbs := by rw [hg, eD]; exact Nat.le_of_dvd (by omega) (Nat.gcd_dvd_right _ _)
 have gi : ZX (Lib.itoa (Zc n d : Int)) = 0 := by
  rw [xZ]
  exact (ZS (n := (Zc n d : Int)) (k := 300) (by omega) (by omega) (by rw [Int.natAbs_natCast]; omega)).2
 have lg := (Zb gi).2.1
 have hz : (Lib.itoa (Zc n d : Int) == [48]) = false := beq_eq_false_iff_ne.2 fun e => by
  have := (ya (Zc n d : Int)).2
  rw [e] at this
  have h0 : zV [48] = 0 := by decide
  rw [h0] at this
  omega
 have dv : ∀ x : zL, ZX x = 0 → yF x (Lib.itoa (Zc n d : Int)) = Lib.itoa (zV x / (Zc n d : Int)) := fun x hx => by
  have e : xe x (Lib.itoa (Zc n d : Int)) = 0 := by
   unfold xe zI
   rw [hx, gi, hz]; rfl
  rw [(P8 e).1, (ya _).2, Int.fdiv_eq_ediv_of_nonneg _ (by omega)]
 have vd : zV d / (Zc n d : Int) = (((zV d).toNat / Zc n d : Nat) : Int) := by
  rw [Int.natCast_ediv]; congr 1; omega
 have qd := dv d hd
 rw [vd] at qd
 have ql : ∀ x : Int, x.natAbs < 10 ^ 300 → (Lib.itoa x).length ≤ 400 := fun x hx => by
  have := xZ x
  rw [(ZS (n := x) (k := 300) (by omega) (by omega) hx).2] at this
  have := (Zb this).2.1
  omega
 refine ⟨hb, by omega, by omega, by omega, zv.2 ⟨fun c => ?_, fun c => ?_⟩⟩
 ·refine lH (by rw [dv n hn, hg]) (by rw [qd, hg]) ?_ ?_
  ·rw [dv n hn]; exact ql _ (by omega)
  ·rw [qd]; exact ql _ (by rw [Int.natAbs_natCast]; omega)
 ·rw [Bool.not_eq_false', rE] at c
  have c1 := Nat.eq_of_beq_eq_true c
  rw [hg] at c1
  refine lH ?_ ?_ (by omega) (by omega)
  ·rw [c1]
   show n = Lib.itoa (zV n / 1)
   rw [Int.ediv_one, x9 n3]
  ·rw [c1, Nat.div_one, show (((zV d).toNat : Nat) : Int) = zV d by omega, x9 d3]
def tW : List AV → Option (List zn × AV)
 | [.str n, .str d] => some ([.p (ZX n = 0), .p (ZX d = 0), .p (zV d ≠ 0)], .tup 2 (zt [.str (xR (zV n) (zV d)), .i 0]))
 | _ => none
theorem KZ (G : List (Nat × Obj)) (n : List UInt8) (d : List UInt8) (hn : ZX n = 0) (hd : ZX d = 0) (hp : zV d ≠ 0) :
 let q1 := (True ∧ bA #[] = xR (zV n) (zV d)); let q2 := (bif zI (yo n) (yo d) != iZ then [] else Lib.itoa (cI (Zc (yo n) (yo d)))); let q3 := (ByteArray.data (ByteArray.mk #[(49 : UInt8)])); let q4 := (ByteArray.data (ByteArray.mk #[(47 : UInt8)])); let q5 := (bif zI n d != iZ then [] else Lib.itoa (cI (Zc n d))); ZY [AV.str n, AV.str d] → zY (zG d) (lN n ≤ nM ∧ lN d ≤ nM ∧ lN (yo n) ≤ nM ∧ lN (yo d) ≤ nM ∧ zY (zI (yo n)
 (yo d) != iZ) (j2 ∧ q1 ∧ kI ∧ zI (yo n) (yo d) = iZ) (zY (!q2 == Array.toList q3) (lN (yo n) ≤ nM ∧ lN q2 ≤ nM ∧ lN (yo d) ≤ nM ∧ lN q2 ≤ nM ∧ zY (yF (yo d) q2 == Array.toList q3) (j2 ∧ (True ∧ yF (yo n) q2 = xR (zV n) (zV d)) ∧ kI ∧ iZ = iZ) (bF (DB.db (lN (yF (yo n) q2) + 1 ≤ nX)) (bF (DB.db (lN (yF (yo n) q2 ++
 Array.toList q4) + lN (yF (yo d) q2) ≤ nX)) (j2 ∧ (True ∧ yF (yo n) q2 ++ Array.toList q4 ++ yF (yo d) q2 = xR (zV n) (zV d)) ∧ kI ∧ iZ = iZ)))) (zY (yo d == Array.toList q3) (j2 ∧ (True ∧ yo n = xR (zV n) (zV d)) ∧ kI ∧ iZ = iZ) (bF (DB.db (lN (yo n) + 1 ≤ nX)) (bF (DB.db (lN (yo n ++ Array.toList q4) + lN (yo d) ≤ nX)) (2 =
 lN [AV.junk, AV.junk] ∧ (True ∧ yo n ++ Array.toList q4 ++ yo d = xR (zV n) (zV d)) ∧ kI ∧ iZ = iZ)))))) (lN n ≤ nM ∧ lN d ≤ nM ∧ zY (zI n d != iZ) (j2 ∧ q1 ∧ kI ∧ zI n d = iZ) (zY (!q5 == Array.toList q3) (lN n ≤ nM ∧ lN q5 ≤ nM ∧ lN d ≤ nM ∧ lN q5 ≤ nM ∧ zY (yF d q5 == Array.toList q3) (j2 ∧ (True ∧ yF n q5 = xR (zV
 n) (zV d)) ∧ kI ∧ iZ = iZ) (bF (DB.db (lN (yF n q5) + 1 ≤ nX)) (bF (DB.db (lN (yF n q5 ++ Array.toList q4) + lN (yF d q5) ≤ nX)) (j2 ∧ (True ∧ yF n q5 ++ Array.toList q4 ++ yF d q5 = xR (zV n) (zV d)) ∧ kI ∧ iZ = iZ)))) (zY (d == Array.toList q3) (j2 ∧ (True ∧ n = xR (zV n) (zV d)) ∧ kI ∧ iZ = iZ) (bF (DB.db (lN n + 1 ≤
 nX)) (bF (DB.db (lN (n ++ Array.toList q4) + lN d ≤ nX)) (j2 ∧ (True ∧ n ++ Array.toList q4 ++ d = xR (zV n) (zV d)) ∧ kI ∧ iZ = iZ)))))) := by
 delta bF bA nX nM cI kI j2 lN iZ
 dsimp only
 intro hb
 simp only [sS, dS]
 have key : ∀ n d : zL, ZX n = 0 → ZX d = 0 → 0 < zV d → _ := fun n d h1 h2 h3 => IW h1 h2 h3
 refine zv.2 ⟨fun c => ?_, fun c => ?_⟩
 ·obtain ⟨o1, o2, o3⟩ := qz hn
  obtain ⟨p1, p2, p3⟩ := qz hd
  have hneg : zV d < 0 := by
   match d, c with
   | x :: r, c =>
    have hx : x = 45 := eq_of_beq c
    subst hx
    have : zV (45 :: r) = -(zm r : Int) := rfl
    omega
  have hs : xR (zV n) (zV d) = yY (zV (yo n)) (zV (yo d)).toNat := by unfold xR; rw [(zR _ _).2 hneg, o2, p2]; rfl
  obtain ⟨k1, k2, k3, k4, k5⟩ := key (yo n) (yo d) o1 p1 (by omega)
  obtain ⟨_, n2, _⟩ := Zb hn
  obtain ⟨_, d2, _⟩ := Zb hd
  rw [k1, hs]
  refine ⟨by omega, by omega, by omega, by omega, fun h => absurd rfl h, fun _ => ?_⟩
  refine zv.2 ⟨fun c => ⟨by omega, Nat.le_trans k2 (by decide), by omega, Nat.le_trans k2 (by decide), ?_⟩, fun c => ?_⟩
  ·exact (zv.1 k5).1 c
  ·exact (zv.1 k5).2 c
 ·have hpos : 0 < zV d := by
   obtain ⟨d1, _⟩ := Ze.1 hd
   rcases yQ d1 with ⟨r, rfl, _⟩ | ⟨g1, g3⟩
   ·cases c
   ·omega
  have hs : xR (zV n) (zV d) = yY (zV n) (zV d).toNat := by unfold xR; rw [show zH (zV d) 0 = false from Bool.eq_false_iff.2 fun e => by have := (zR _ _).1 e; omega]; rfl
  obtain ⟨k1, k2, k3, k4, k5⟩ := key n d hn hd hpos
  rw [k1, hs]
  refine ⟨by omega, by omega, fun h => absurd rfl h, fun _ => ?_⟩
  refine zv.2 ⟨fun c => ⟨by omega, Nat.le_trans k2 (by decide), by omega, Nat.le_trans k2 (by decide), ?_⟩, fun c => ?_⟩
  ·exact (zv.1 k5).1 c
  ·exact (zv.1 k5).2 c
theorem IA {G : List (Nat × Obj)} (hG : zh G) (n : List UInt8) (d : List UInt8) (hn : ZX n = 0) (hd : ZX d = 0) (hp : zV d ≠ 0) : zT Tryz.prog G 44 [.str n, .str d] (.tup 2 (zt [.str (xR (zV n) (zV d)), .i 0])) :=
 zU (T := ((((Vw G).plus 102 (YF fun s => .b (zG s))).plus 84 SC).plus 104 tw).plus 103 Pe) (an := .auto) mixed (zZ.plus (zZ.plus (zZ.plus (zZ.plus zq (zQ.mono Mv)) (Ml hG)) (QG hG)) (zQ.mono IT)) (Eq.mp (by kernel_rfl) (KZ G n d hn hd hp))
theorem PP {G : List (Nat × Obj)} (hG : zh G) : zQ Tryz.prog G 44 tW := by
 intro xs ps r h hp
 unfold tW at h
 split at h
 ·skip
  rename_i n d
  cases h
  obtain ⟨q0, q1, q2, -⟩ := Zo hp
  exact weaken (ys := [.str n, .str d]) ⟨zr _, zr _, trivial⟩ (IA hG n d q0 q1 q2)
 ·cases h
end Go.Te

namespace Go.Te
open Go Go.Sx Go.Proofs Go.Ar
set_option maxRecDepth 100000
set_option maxHeartbeats 4000000
structure Pt where
 n : zL
 d : zL
instance : zi Pt := ⟨2, ⟨[], []⟩, fun c => zt [.str c.n, .str c.d], fun cs => ⟨AV.bytes (cs 0), AV.bytes (cs 1)⟩, fun cs => ZV (cs 0) && ZV (cs 1), fun cs h j hj => by
 simp only [Bool.and_eq_true] at h
 match j, hj with
 | 0, _ => exact ZA (Wn h.1)
 | 1, _ => exact ZA (Wn h.2)⟩
instance : xD Pt := ⟨fun _ => rfl, fun _ => rfl⟩
def KX (k : Nat) : AV → Bool
 | .fn (.func k') 0 _ 0 _ => Nat.beq k' k
 | _ => false
theorem qE {k : Nat} {x : AV} (h : KX k x = true) : zB x (KY k) := by
 unfold KX at h
 split at h
 ·obtain rfl := Nat.eq_of_beq_eq_true h
  exact ⟨rfl, rfl, rfl, Xw, Xw⟩
 ·cases h
def VU (x : Nt) : Prop := (-99999999 ≤ x.n ∧ x.n ≤ 99999999) ∧ (0 < x.d ∧ x.d ≤ 99999999)
theorem y6 {a b : Int} (ha : -99999999 ≤ a ∧ a ≤ 99999999) (hb : -99999999 ≤ b ∧ b ≤ 99999999) : -10000000000000000 ≤ a * b ∧ a * b ≤ 10000000000000000 := by
 have h : (a * b).natAbs ≤ 99999999 * 99999999 := by rw [Int.natAbs_mul]; exact Nat.mul_le_mul (by omega) (by omega)
 omega
def N0 : List AV → Option (List zn × AV)
 | [.agg 2 p_x, .agg 2 p_y] => some ([.b (Yz (p_x 0) && Yz (p_x 1)), .b (Yz (p_y 0) && Yz (p_y 1)), .p (VU (⟨AV.int (p_x 0), AV.int (p_x 1)⟩ : Nt)), .p (VU (⟨AV.int (p_y 0), AV.int (p_y 1)⟩ : Nt))], yw (⟨(⟨AV.int (p_x 0), AV.int (p_x 1)⟩ : Nt).n * (⟨AV.int (p_y 0), AV.int (p_y 1)⟩ : Nt).d + (⟨AV.int (p_y 0), AV.int (p_y 1)⟩ : Nt).n * (⟨AV.int (p_x 0), AV.int (p_x 1)⟩ : Nt).d, (⟨AV.int (p_x 0), AV.int (p_x 1)⟩ : Nt).d * (⟨AV.int (p_y 0), AV.int (p_y 1)⟩ : Nt).d⟩ : Nt))
 | _ => none
theorem HZ (x : Nt) (y : Nt) (h1 : VU x) (h2 : VU y) :
 ZY [AV.agg 2 (zi.enc x), AV.agg 2 (zi.enc y)] → bF (dK (Nt.n x * Nt.d y)) (bF (dK (Nt.n y * Nt.d x)) (bF (dK (Nt.n x * Nt.d y + Nt.n y * Nt.d x)) (bF (dK (Nt.d x * Nt.d y)) (2 = 2 ∧ (kI ∧ Nt.n x * Nt.d y + Nt.n y * Nt.d x = Nt.n (Nt.mk (Nt.n x * Nt.d y + Nt.n y * Nt.d x) (Nt.d x * Nt.d y))) ∧ kI ∧ Nt.d x * Nt.d y = Nt.d (Nt.mk (Nt.n x * Nt.d y + Nt.n y * Nt.d x) (Nt.d x * Nt.d y)))))) := by
 delta bF dK kI
 intro hb
 simp only [sS, dS]
 unfold VU at h1 h2
 have m1 := y6 (a := x.n) (b := y.d) h1.1 ⟨by omega, h2.2.2⟩
 have m2 := y6 (a := y.n) (b := x.d) h2.1 ⟨by omega, h1.2.2⟩
 have m3 := y6 (a := x.d) (b := y.d) ⟨by omega, h1.2.2⟩ ⟨by omega, h2.2.2⟩
 exact ⟨⟨by omega, by omega⟩, ⟨by omega, by omega⟩, ⟨by omega, by omega⟩, ⟨by omega, by omega⟩⟩
theorem fM (x : Nt) (y : Nt) (h1 : VU x) (h2 : VU y) : zT Tryz.prog [] 45 [yw x, yw y] (yw (⟨x.n * y.d + y.n * x.d, x.d * y.d⟩ : Nt)) :=
 zU (T := T0) (an := .auto) mixed zq (Eq.mp (by kernel_rfl) (HZ x y h1 h2))
theorem Gm : zQ Tryz.prog [] 45 N0 := by
 intro xs ps r h hp
 unfold N0 at h
 split at h
 ·skip
  rename_i p_x p_y
  cases h
  obtain ⟨q0, q1, q2, q3, -⟩ := Zo hp
  exact weaken (ys := [yw (⟨AV.int (p_x 0), AV.int (p_x 1)⟩ : Nt), yw (⟨AV.int (p_y 0), AV.int (p_y 1)⟩ : Nt)]) ⟨zc (x := .agg 2 p_x) (α := Nt) q0, zc (x := .agg 2 p_y) (α := Nt) q1, trivial⟩ (fM (⟨AV.int (p_x 0), AV.int (p_x 1)⟩ : Nt) (⟨AV.int (p_y 0), AV.int (p_y 1)⟩ : Nt) q2 q3)
 ·cases h
def Md : List AV → Option (List zn × AV)
 | [.agg 2 p_x, .agg 2 p_y] => some ([.b (Yz (p_x 0) && Yz (p_x 1)), .b (Yz (p_y 0) && Yz (p_y 1)), .p (VU (⟨AV.int (p_x 0), AV.int (p_x 1)⟩ : Nt)), .p (VU (⟨AV.int (p_y 0), AV.int (p_y 1)⟩ : Nt))], yw (⟨(⟨AV.int (p_x 0), AV.int (p_x 1)⟩ : Nt).n * (⟨AV.int (p_y 0), AV.int (p_y 1)⟩ : Nt).n, (⟨AV.int (p_x 0), AV.int (p_x 1)⟩ : Nt).d * (⟨AV.int (p_y 0), AV.int (p_y 1)⟩ : Nt).d⟩ : Nt))
 | _ => none
theorem HV (x : Nt) (y : Nt) (h1 : VU x) (h2 : VU y) :
 ZY [AV.agg 2 (zi.enc x), AV.agg 2 (zi.enc y)] → bF (dK (Nt.n x * Nt.n y)) (bF (dK (Nt.d x * Nt.d y)) (2 = 2 ∧ (kI ∧ Nt.n x * Nt.n y = Nt.n (Nt.mk (Nt.n x * Nt.n y) (Nt.d x * Nt.d y))) ∧ kI ∧ Nt.d x * Nt.d y = Nt.d (Nt.mk (Nt.n x * Nt.n y) (Nt.d x * Nt.d y)))) := by
 delta bF dK kI
 intro hb
 simp only [sS, dS]
 unfold VU at h1 h2
 have m1 := y6 (a := x.n) (b := y.n) h1.1 ⟨by omega, h2.1.2⟩
 have m2 := y6 (a := y.n) (b := x.d) h2.1 ⟨by omega, h1.2.2⟩
 have m3 := y6 (a := x.d) (b := y.d) ⟨by omega, h1.2.2⟩ ⟨by omega, h2.2.2⟩
 exact ⟨⟨by omega, by omega⟩, ⟨by omega, by omega⟩⟩
theorem Gp (x : Nt) (y : Nt) (h1 : VU x) (h2 : VU y) : zT Tryz.prog [] 40 [yw x, yw y] (yw (⟨x.n * y.n, x.d * y.d⟩ : Nt)) :=
 zU (T := T0) (an := .auto) mixed zq (Eq.mp (by kernel_rfl) (HV x y h1 h2))
theorem Gj : zQ Tryz.prog [] 40 Md := by
 intro xs ps r h hp
 unfold Md at h
 split at h
 ·skip
  rename_i p_x p_y
  cases h
  obtain ⟨q0, q1, q2, q3, -⟩ := Zo hp
  exact weaken (ys := [yw (⟨AV.int (p_x 0), AV.int (p_x 1)⟩ : Nt), yw (⟨AV.int (p_y 0), AV.int (p_y 1)⟩ : Nt)]) ⟨zc (x := .agg 2 p_x) (α := Nt) q0, zc (x := .agg 2 p_y) (α := Nt) q1, trivial⟩ (Gp (⟨AV.int (p_x 0), AV.int (p_x 1)⟩ : Nt) (⟨AV.int (p_y 0), AV.int (p_y 1)⟩ : Nt) q2 q3)
 ·cases h
def Wy (f : Int → Int → Int) (x y : Pt) : Int :=
 bif ZU (zV x.n * zV y.d) != 0 then ZU (zV x.n * zV y.d) else bif ZU (zV y.n * zV x.d) != 0 then ZU (zV y.n * zV x.d)
 else bif ZU (f (zV x.n * zV y.d) (zV y.n * zV x.d)) != 0 then ZU (f (zV x.n * zV y.d) (zV y.n * zV x.d)) else ZU (zV x.d * zV y.d)
def TC (f : Int → Int → Int) (x y : Pt) : zL := bif Wy f x y == 0 then xR (f (zV x.n * zV y.d) (zV y.n * zV x.d)) (zV x.d * zV y.d) else []
def uL (x : Pt) : Prop := ZX x.n = 0 ∧ ZX x.d = 0 ∧ zV x.d ≠ 0
theorem Wr {f : Int → Int → Int} {a b : zL} (ha : ZX a = 0) (hb : ZX b = 0) : yI f a b = ZU (f (zV a) (zV b)) ∧ YR f a b = yp (f (zV a) (zV b)) := by
 have hE : zI a b = 0 := by unfold zI; rw [ha, hb]; rfl
 obtain ⟨e1, e2⟩ := vm (f := f) hE
 exact ⟨e2, e1⟩
theorem WW {n : Int} (h : ZU n = 0) : ZX (yp n) = 0 ∧ zV (yp n) = n ∧ (yp n).length ≤ 400 := by
 have e : yp n = Lib.itoa n := by unfold yp; rw [h]; rfl
 have hi : ZX (Lib.itoa n) = 0 := by rw [xZ, h]
 rw [e]
 exact ⟨hi, (ya n).2, by have := (Zb hi).2.1; omega⟩
theorem ll {f : Int → Int → Int} {x y : Pt} (h1 : uL x) (h2 : uL y) :
 x.n.length ≤ 4294967280 ∧ y.d.length ≤ 4294967280 ∧
  (yI (fun x1 x2 => x1 * x2) x.n y.d ≠ 0 →
   (yI (fun x1 x2 => x1 * x2) x.n y.d ≠ 0 → 2 = [AV.junk, AV.junk].length ∧ [] = TC f x y ∧ yI (fun x1 x2 => x1 * x2) x.n y.d = Wy f x y) ∧
   (yI (fun x1 x2 => x1 * x2) x.n y.d = 0 → 2 = [AV.junk, AV.junk].length ∧ [] = TC f x y ∧ yI f [] [] = Wy f x y)) ∧
  (yI (fun x1 x2 => x1 * x2) x.n y.d = 0 → y.n.length ≤ 4294967280 ∧ x.d.length ≤ 4294967280 ∧
   (yI (fun x1 x2 => x1 * x2) y.n x.d ≠ 0 → 2 = [AV.junk, AV.junk].length ∧ [] = TC f x y ∧ yI (fun x1 x2 => x1 * x2) y.n x.d = Wy f x y) ∧
   (yI (fun x1 x2 => x1 * x2) y.n x.d = 0 → (YR (fun x1 x2 => x1 * x2) x.n y.d).length ≤ 4294967280 ∧ (YR (fun x1 x2 => x1 * x2) y.n x.d).length ≤ 4294967280 ∧
    (yI f (YR (fun x1 x2 => x1 * x2) x.n y.d) (YR (fun x1 x2 => x1 * x2) y.n x.d) ≠ 0 → 2 = [AV.junk, AV.junk].length ∧ [] = TC f x y ∧ yI f (YR (fun x1 x2 => x1 * x2) x.n y.d) (YR (fun x1 x2 => x1 * x2) y.n x.d) = Wy f x y) ∧
    (yI f (YR (fun x1 x2 => x1 * x2) x.n y.d) (YR (fun x1 x2 => x1 * x2) y.n x.d) = 0 → x.d.length ≤ 4294967280 ∧ y.d.length ≤ 4294967280 ∧
     (yI (fun x1 x2 => x1 * x2) x.d y.d ≠ 0 → 2 = [AV.junk, AV.junk].length ∧ [] = TC f x y ∧ yI (fun x1 x2 => x1 * x2) x.d y.d = Wy f x y) ∧
     (yI (fun x1 x2 => x1 * x2) x.d y.d = 0 → ZX (YR f (YR (fun x1 x2 => x1 * x2) x.n y.d) (YR (fun x1 x2 => x1 * x2) y.n x.d)) = 0 ∧ ZX (YR (fun x1 x2 => x1 * x2) x.d y.d) = 0 ∧ zV (YR (fun x1 x2 => x1 * x2) x.d y.d) ≠ 0 ∧
      2 = [AV.junk, AV.junk].length ∧ xR (zV (YR f (YR (fun x1 x2 => x1 * x2) x.n y.d) (YR (fun x1 x2 => x1 * x2) y.n x.d))) (zV (YR (fun x1 x2 => x1 * x2) x.d y.d)) = TC f x y ∧ 0 = Wy f x y)))) := by
 obtain ⟨a1, a2, a3⟩ := h1
 obtain ⟨b1, b2, b3⟩ := h2
 have l1 := (Zb a1).2.1
 have l2 := (Zb a2).2.1
 have l3 := (Zb b1).2.1
 have l4 := (Zb b2).2.1
 obtain ⟨p1, p2⟩ := Wr (f := fun x1 x2 => x1 * x2) a1 b2
 obtain ⟨p3, p4⟩ := Wr (f := fun x1 x2 => x1 * x2) b1 a2
 obtain ⟨p5, p6⟩ := Wr (f := fun x1 x2 => x1 * x2) a2 b2
 have bad : ∀ e : Int, e ≠ 0 → e = Wy f x y → 2 = [AV.junk, AV.junk].length ∧ [] = TC f x y ∧ e = Wy f x y := fun e h0 h => ⟨rfl, by unfold TC; rw [← h, beq_eq_false_iff_ne.2 h0]; rfl, h⟩
 rw [p1, p2, p3, p4, p5, p6]
 refine ⟨by omega, by omega, fun h => ⟨fun _ => bad _ h ?_, fun h0 => absurd h0 h⟩, fun g1 => ⟨by omega, by omega, fun h => bad _ h ?_, fun g2 => ?_⟩⟩
 ·unfold Wy; rw [bne_iff_ne.2 h]; rfl
 ·unfold Wy; rw [g1, bne_iff_ne.2 h]; rfl
 obtain ⟨r1, r2, r3⟩ := WW g1
 obtain ⟨r4, r5, r6⟩ := WW g2
 obtain ⟨p7, p8⟩ := Wr (f := f) r1 r4
 rw [r2, r5] at p7 p8
 rw [p7, p8]
 refine ⟨by omega, by omega, fun h => bad _ h ?_, fun g3 => ⟨by omega, by omega, fun h => bad _ h ?_, fun g4 => ?_⟩⟩
 ·unfold Wy; rw [g1, g2, bne_iff_ne.2 h]; rfl
 ·unfold Wy; rw [g1, g2, g3]; rfl
 obtain ⟨s1, s2, s3⟩ := WW g3
 obtain ⟨s4, s5, s6⟩ := WW g4
 have e : Wy f x y = 0 := by unfold Wy; rw [g1, g2, g3, g4]; rfl
 rw [s2, s5]
 exact ⟨s1, s4, Int.mul_ne_zero a3 b3, rfl, by unfold TC; rw [e]; rfl, e.symm⟩
noncomputable def FC (G : List (Nat × Obj)) : Tb := (((((Vw G).plus 43 vI).plus 47 Pb).plus 49 PC).plus 44 tW).body Tryz.prog [(33, .auto)]
theorem Sv {G : List (Nat × Obj)} (hG : zh G) : zZ Tryz.prog (FC G) := zZ.body mixed (zZ.plus (zZ.plus (zZ.plus (zZ.plus zq (Tf hG)) (Hu hG)) (IH hG)) (PP hG)) _
def M2 : List AV → Option (List zn × AV)
 | [.agg 2 p_x, .agg 2 p_y, .xq 1 c_cf 0] => some ([.b (ZV (p_x 0) && ZV (p_x 1)), .b (ZV (p_y 0) && ZV (p_y 1)), .b (KX 47 (c_cf 0)), .p (uL (⟨AV.bytes (p_x 0), AV.bytes (p_x 1)⟩ : Pt)), .p (uL (⟨AV.bytes (p_y 0), AV.bytes (p_y 1)⟩ : Pt))], .tup 2 (zt [.str (TC (· + ·) (⟨AV.bytes (p_x 0), AV.bytes (p_x 1)⟩ : Pt) (⟨AV.bytes (p_y 0), AV.bytes (p_y 1)⟩ : Pt)), .i (Wy (· + ·) (⟨AV.bytes (p_x 0), AV.bytes (p_x 1)⟩ : Pt) (⟨AV.bytes (p_y 0), AV.bytes (p_y 1)⟩ : Pt))]))
 | _ => none
theorem IO (G : List (Nat × Obj)) (x : Pt) (y : Pt) (h1 : uL x) (h2 : uL y) :
 let q1 := (yI (fun (x1 x2 : Int) => x1 * x2) (Pt.n x) (Pt.d y) != iZ); let q2 := (True ∧ bA #[] = TC (fun (x1 x2 : Int) => x1 + x2) x y); let q3 := (bA #[]); let q4 := (YR (fun (x1 x2 : Int) => x1 * x2) (Pt.n x) (Pt.d y)); let q5 := (YR (fun (x1 x2 : Int) => x1 * x2) (Pt.n y) (Pt.d x)); let q6 := (YR (fun (x1 x2 : Int) => x1 + x2) q4 q5); let q7 := (YR (fun (x1 x2 : Int) => x1 * x2) (Pt.d x) (Pt.d y)); ZY [AV.agg 2 (zi.enc x), AV.agg 2 (zi.enc y), AV.xq 1 (fun (x : Nat) => AV.fn (Fn.func (64 :
 FuncId)) 0 (fun (x : Nat) => AV.junk) 0 fun (x : Nat) => AV.junk) 0] → lN (Pt.n x) ≤ nM ∧ lN (Pt.d y) ≤ nM ∧ zY q1 (zY q1 (j2 ∧ q2 ∧ kI ∧ yI (fun (x1 x2 : Int) => x1 * x2) (Pt.n x) (Pt.d y) = Wy (fun (x1 x2 : Int) => x1 + x2) x y) (0 ≤ nM ∧ 0 ≤ nM ∧ j2 ∧ q2 ∧ kI ∧ yI (fun (x1 x2 : Int) => x1 + x2) q3 q3 = Wy (fun (x1 x2 : Int) => x1 + x2) x y)) (lN (Pt.n y) ≤ nM ∧ lN (Pt.d x) ≤ nM ∧ zY (yI (fun (x1 x2
 : Int) => x1 * x2) (Pt.n y) (Pt.d x) != iZ) (j2 ∧ q2 ∧ kI ∧ yI (fun (x1 x2 : Int) => x1 * x2) (Pt.n y) (Pt.d x) = Wy (fun (x1 x2 : Int) => x1 + x2) x y) (lN q4 ≤ nM ∧ lN q5 ≤ nM ∧ zY (yI (fun (x1 x2 : Int) => x1 + x2) q4 q5 != iZ) (j2 ∧ q2 ∧ kI ∧ yI (fun (x1 x2 : Int) => x1 + x2) q4 q5 = Wy (fun (x1 x2 : Int) => x1 + x2) x y) (lN (Pt.d x) ≤ nM ∧ lN (Pt.d y) ≤ nM ∧ zY (yI (fun (x1 x2 : Int) => x1 * x2)
 (Pt.d x) (Pt.d y) != iZ) (j2 ∧ q2 ∧ kI ∧ yI (fun (x1 x2 : Int) => x1 * x2) (Pt.d x) (Pt.d y) = Wy (fun (x1 x2 : Int) => x1 + x2) x y) (ZX q6 = iZ ∧ ZX q7 = iZ ∧ zV q7 ≠ iZ ∧ j2 ∧ (True ∧ xR (zV q6) (zV q7) = TC (fun (x1 x2 : Int) => x1 + x2) x y) ∧ kI ∧ iZ = Wy (fun (x1 x2 : Int) => x1 + x2) x y)))) := by
 delta bA nM kI j2 lN iZ
 dsimp only
 intro hb
 simp only [sS, dS]
 exact ll h1 h2
theorem Gf {G : List (Nat × Obj)} (hG : zh G) (x : Pt) (y : Pt) (h1 : uL x) (h2 : uL y) : zT Tryz.prog G 105 [yw x, yw y, .xq 1 (fun _ => KY 47) 0] (.tup 2 (zt [.str (TC (· + ·) x y), .i (Wy (· + ·) x y)])) :=
 zU (T := FC G) (an := .auto) mixed (Sv hG) (Eq.mp (by kernel_rfl) (IO G x y h1 h2))
theorem GB {G : List (Nat × Obj)} (hG : zh G) : zQ Tryz.prog G 105 M2 := by
 intro xs ps r h hp
 unfold M2 at h
 split at h
 ·skip
  rename_i p_x p_y c_cf
  cases h
  obtain ⟨q0, q1, q2, q3, q4, -⟩ := Zo hp
  exact weaken (ys := [yw (⟨AV.bytes (p_x 0), AV.bytes (p_x 1)⟩ : Pt), yw (⟨AV.bytes (p_y 0), AV.bytes (p_y 1)⟩ : Pt), .xq 1 (fun _ => KY 47) 0]) ⟨zc (x := .agg 2 p_x) (α := Pt) q0, zc (x := .agg 2 p_y) (α := Pt) q1, ⟨rfl, rfl, qE q2⟩, trivial⟩ (Gf hG (⟨AV.bytes (p_x 0), AV.bytes (p_x 1)⟩ : Pt) (⟨AV.bytes (p_y 0), AV.bytes (p_y 1)⟩ : Pt) q3 q4)
 ·cases h
def QL (x y : Pt) : Int := bif ZU (zV x.n * zV y.n) != 0 then ZU (zV x.n * zV y.n) else ZU (zV x.d * zV y.d)
def kW (x y : Pt) : zL := bif QL x y == 0 then xR (zV x.n * zV y.n) (zV x.d * zV y.d) else []
def LK : List AV → Option (List zn × AV)
 | [.agg 2 p_x, .agg 2 p_y] => some ([.b (ZV (p_x 0) && ZV (p_x 1)), .b (ZV (p_y 0) && ZV (p_y 1)), .p (uL (⟨AV.bytes (p_x 0), AV.bytes (p_x 1)⟩ : Pt)), .p (uL (⟨AV.bytes (p_y 0), AV.bytes (p_y 1)⟩ : Pt))], .tup 2 (zt [.str (kW (⟨AV.bytes (p_x 0), AV.bytes (p_x 1)⟩ : Pt) (⟨AV.bytes (p_y 0), AV.bytes (p_y 1)⟩ : Pt)), .i (QL (⟨AV.bytes (p_x 0), AV.bytes (p_x 1)⟩ : Pt) (⟨AV.bytes (p_y 0), AV.bytes (p_y 1)⟩ : Pt))]))
 | _ => none
theorem il (G : List (Nat × Obj)) (x : Pt) (y : Pt) (h1 : uL x) (h2 : uL y) :
 let q1 := (True ∧ bA #[] = kW x y); let q2 := (YR (fun (x1 x2 : Int) => x1 * x2) (Pt.n x) (Pt.n y)); let q3 := (YR (fun (x1 x2 : Int) => x1 * x2) (Pt.d x) (Pt.d y)); ZY [AV.agg 2 (zi.enc x), AV.agg 2 (zi.enc y)] → lN (Pt.n x) ≤ nM ∧ lN (Pt.n y) ≤ nM ∧ zY (yI (fun (x1 x2 : Int) => x1 * x2) (Pt.n x) (Pt.n y) != iZ) (j2 ∧ q1 ∧ kI ∧ yI (fun (x1 x2 : Int) => x1 * x2) (Pt.n x) (Pt.n y) = QL x y) (lN (Pt.d x) ≤ nM ∧ lN (Pt.d y) ≤
 nM ∧ zY (yI (fun (x1 x2 : Int) => x1 * x2) (Pt.d x) (Pt.d y) != iZ) (j2 ∧ q1 ∧ kI ∧ yI (fun (x1 x2 : Int) => x1 * x2) (Pt.d x) (Pt.d y) = QL x y) (ZX q2 = iZ ∧ ZX q3 = iZ ∧ zV q3 ≠ iZ ∧ j2 ∧ (True ∧ xR (zV q2) (zV q3) = kW x y) ∧ kI ∧ iZ = QL x y)) := by
 delta bA nM kI j2 lN iZ
 dsimp only
 intro hb
 simp only [sS, dS]
 obtain ⟨a1, a2, a3⟩ := h1
 obtain ⟨b1, b2, b3⟩ := h2
 have l1 := (Zb a1).2.1
 have l2 := (Zb a2).2.1
 have l3 := (Zb b1).2.1
 have l4 := (Zb b2).2.1
 obtain ⟨p1, p2⟩ := Wr (f := fun x1 x2 => x1 * x2) a1 b1
 obtain ⟨p5, p6⟩ := Wr (f := fun x1 x2 => x1 * x2) a2 b2
 have bad : ∀ e : Int, e ≠ 0 → e = QL x y → 2 = [AV.junk, AV.junk].length ∧ [] = kW x y ∧ e = QL x y := fun e h0 h => ⟨rfl, by unfold kW; rw [← h, beq_eq_false_iff_ne.2 h0]; rfl, h⟩
 rw [p1, p2, p5, p6]
 refine ⟨by omega, by omega, fun h => bad _ h ?_, fun g1 => ⟨by omega, by omega, fun h => bad _ h ?_, fun g4 => ?_⟩⟩
 ·unfold QL; rw [bne_iff_ne.2 h]; rfl
 ·unfold QL; rw [g1]; rfl
 obtain ⟨s1, s2, s3⟩ := WW g1
 obtain ⟨s4, s5, s6⟩ := WW g4
 have e : QL x y = 0 := by unfold QL; rw [g1, g4]; rfl
 rw [s2, s5]
 exact ⟨s1, s4, Int.mul_ne_zero a3 b3, rfl, by unfold kW; rw [e]; rfl, e.symm⟩
theorem fW {G : List (Nat × Obj)} (hG : zh G) (x : Pt) (y : Pt) (h1 : uL x) (h2 : uL y) : zT Tryz.prog G 42 [yw x, yw y] (.tup 2 (zt [.str (kW x y), .i (QL x y)])) :=
 zU (T := ((Vw G).plus 43 vI).plus 44 tW) (an := .auto) mixed (zZ.plus (zZ.plus zq (Tf hG)) (PP hG)) (Eq.mp (by kernel_rfl) (il G x y h1 h2))
theorem gt {G : List (Nat × Obj)} (hG : zh G) : zQ Tryz.prog G 42 LK := by
 intro xs ps r h hp
 unfold LK at h
 split at h
 ·skip
  rename_i p_x p_y
  cases h
  obtain ⟨q0, q1, q2, q3, -⟩ := Zo hp
  exact weaken (ys := [yw (⟨AV.bytes (p_x 0), AV.bytes (p_x 1)⟩ : Pt), yw (⟨AV.bytes (p_y 0), AV.bytes (p_y 1)⟩ : Pt)]) ⟨zc (x := .agg 2 p_x) (α := Pt) q0, zc (x := .agg 2 p_y) (α := Pt) q1, trivial⟩ (fW hG (⟨AV.bytes (p_x 0), AV.bytes (p_x 1)⟩ : Pt) (⟨AV.bytes (p_y 0), AV.bytes (p_y 1)⟩ : Pt) q2 q3)
 ·cases h
end Go.Te
