/- kingpostref01: result, Mul, Compare. -/
import Derived.Test.YtdkpceodckdcfaaGreatDoorTeIj
import Derived.Test.YtdkpceodckdcfaaGreatDoorTeJ
import Derived.Test.YtdkpceodckdcfaaGreatDoorArO
set_option linter.unusedSimpArgs false
set_option linter.unusedVariables false
namespace Go.Te
open Go Go.Sx Go.Proofs Go.Ar
set_option maxRecDepth 100000
set_option maxHeartbeats 4000000
theorem W2 (n : Int) : Zt (Lib.itoa n) = ZZ n := by
 obtain ⟨h1, h2⟩ := Z8 n
 have h3 := wj h1
 rw [h2] at h3
 unfold Zt ZZ
 simp_all
theorem wK (n : Bool) (k : Nat) : UY n (zw 1000000 k) = bif n then -(k : Int) else k := by unfold UY; rw [vL]
theorem xi {a : zh} (h : Zy a = true) : UY (a.getD 0 0 == 45) (zw 1000000 (zt a).natAbs) = zt a := by
 rw [wK]; exact UA h
theorem kD {b : zh} (h : Zy b = true) : UY (bif Nat.beq (zw 1000000 (zt b).natAbs).length 0 then b.getD 0 0 == 45 else !(b.getD 0 0 == 45)) (zw 1000000 (zt b).natAbs) = - zt b := by
 have hb := xi h
 rw [wK] at hb ⊢
 cases hz : Nat.beq (zw 1000000 (zt b).natAbs).length 0 with
 | true =>
  rw [Nat.beq_eq] at hz
  have := yK (b := 1000000) (by omega) hz
  grind
 | false =>
  grind
theorem kO (n : Bool) {v : Int} (h : 0 ≤ v) : UY n (zw 1000000 v.toNat) = bif n then - v else v := by rw [wK, Int.toNat_of_nonneg h]
theorem Ha (s : Bool) (P : Nat) : UY (bif Nat.beq P 0 then false else s) (zw 1000000 P) = bif s then -(P : Int) else P := by
 rw [wK]
 cases hz : Nat.beq P 0 with
 | true => simp_all
 | false => rfl
theorem Ww {n k : Nat} (h : n < 10 ^ k) : (zw 1000000 n).length ≤ k := by
 refine yg (b := 1000000) (by omega) ?_
 have h2 : 10 ^ k ≤ 1000000 ^ k := Nat.pow_le_pow_left (by omega) _
 omega
theorem yH (n : Nat) : Zv 1000000 (zw 1000000 n) ∧ zm (zw 1000000 n) = zw 1000000 n := ⟨YO (b := 1000000) (by omega) n, XU (b := 1000000) (by omega) n⟩
theorem Hx {l : List Int} (hx : Zv 1000000 l) (hl : l.length ≤ 100000000) (n : Bool) : (Lib.itoa (bif n then - zW 1000000 l else zW 1000000 l)).length ≤ 4294967280 := by
 have v0 := zj (b := 1000000) (by omega) hx
 have v1 := yB (b := 1000000) (by omega) hx
 have h1 : Vk (bif n then - zW 1000000 l else zW 1000000 l) ≤ 6 * l.length + 1 := by
  refine WV (by omega) ?_
  have e : (bif n then - zW 1000000 l else zW 1000000 l).natAbs = (zW 1000000 l).toNat := by cases n <;> simp <;> omega
  rw [e]
  have h2 : (zW 1000000 l).toNat < 1000000 ^ l.length := by
   simp_all
  have h3 : (1000000 : Nat) ^ l.length = 10 ^ (6 * l.length) := by rw [Nat.pow_mul]
  omega
 rw [Yf]
 grind
def S4 : List AV → Option (List zN × AV)
 | [x_x] => some ([.b (ZH Big x_x), .p (Zv 1000000 (ZR (α := Big) x_x).l), .p (zm (ZR (α := Big) x_x).l = (ZR (α := Big) x_x).l), .p ((ZR (α := Big) x_x).l.length ≤ 100000000), .p ((ZR (α := Big) x_x).neg = true → (ZR (α := Big) x_x).l.length ≠ 0)], .tup 2 (zT [.str (yq (UY (ZR (α := Big) x_x).neg (ZR (α := Big) x_x).l)), .i (ZZ (UY (ZR (α := Big) x_x).neg (ZR (α := Big) x_x).l))]))
 | _ => none
theorem MQ (x : Big) (hx : Zv 1000000 x.l) (ht : zm x.l = x.l) (hl : x.l.length ≤ 100000000) (h0 : x.neg = true → x.l.length ≠ 0) :
 let q1 := (AV.agg 2 fun (i : Nat) => zp.enc x (0 + i)); let q3 := (ZR q1); let q2 := (Big.l q3); let q5 := (bif Big.neg q3 then -zW (1000000 : Int) q2 else zW (1000000 : Int) q2); let q4 := (Lib.itoa q5); zB [AV.agg 2 (zp.enc x)] → bF (ZH Big q1) ((∀ (x_1 : Int), List.Mem x_1 q2 → iZ ≤ x_1 ∧ x_1 < (1000000 : Int)) ∧ zm q2 = Big.l q3 ∧ lN q2 ≤ 100000000 ∧ (Big.neg q3 = true → lN q2 ≠ 0) ∧ lN q4 ≤ nM ∧ zZ (Zt q4 != iZ) (j2 ∧ (True ∧ bA #[] = yq (UY
 (Big.neg x) (Big.l x))) ∧ kI ∧ (4 : Int) = ZZ (UY (Big.neg x) (Big.l x))) (j2 ∧ (True ∧ Lib.itoa q5 = yq (UY (Big.neg x) (Big.l x))) ∧ kI ∧ iZ = ZZ (UY (Big.neg x) (Big.l x)))) := by
 delta bF bA nM kI j2 lN iZ
 dsimp only
 intro hb
 have e0 : (zp.dflt : Int) = 0 := rfl
 simp only [↓ZK, ↓ZT, row_one]
 simp only [sS, dS, e0, qQ, sI, Yo, W2]
 unfold UY
 refine ⟨hx, ht, hl, h0, Hx hx hl _, fun h => ?_, fun h => ?_⟩
 ·generalize (bif x.neg then - zW 1000000 x.l else zW 1000000 x.l) = v at *
  have e : ZZ v = 4 := by
   unfold ZZ at h ⊢
   grind
  refine ⟨rfl, ?_, e.symm⟩
  unfold yq
  simp_all
 ·refine ⟨rfl, ?_, h.symm⟩
  unfold yq
  simp_all
theorem kE (x : Big) (hx : Zv 1000000 x.l) (ht : zm x.l = x.l) (hl : x.l.length ≤ 100000000) (h0 : x.neg = true → x.l.length ≠ 0) : zS Tryz.prog [] 160 [yx x] (.tup 2 (zT [.str (yq (UY x.neg x.l)), .i (ZZ (UY x.neg x.l))])) :=
 zV (T := (T0.plus 106 ww).plus 152 WG) (an := .auto) mixed (zY.plus (zY.plus zr uw) ss) (Eq.mp (by kernel_rfl) (MQ x hx ht hl h0))
theorem kw : zQ Tryz.prog [] 160 S4 := by
 intro xs ps r h hp
 unfold S4 at h
 split at h
 ·skip
  rename_i x_x
  cases h
  obtain ⟨q0, q1, q2, q3, q4, -⟩ := Zx hp
  exact weaken (ys := [yx (ZR (α := Big) x_x)]) ⟨zH q0, trivial⟩ (kE (ZR (α := Big) x_x) q1 q2 q3 q4)
 ·cases h
noncomputable def HN (G : List (Nat × Obj)) : Tb := (((((((j5 G).plus 102 VP).plus 103 ub).plus 104 vC).plus 161 rW).plus 108 Sd).plus 109 Sp).plus 160 S4
theorem WA {G : List (Nat × Obj)} (hG : zM G) : zY Tryz.prog (HN G) :=
 zY.plus (zY.plus (zY.plus (zY.plus (zY.plus (zY.plus (zY.plus (xx hG) (zQ.mono qT)) (zQ.mono Ph)) (zQ.mono R4)) (zQ.mono Kp)) (zQ.mono K7)) (zQ.mono Ka)) (zQ.mono kw)
def uB : List AV → Option (List zN × AV)
 | [.str a, .str b] => some ([.p (a.length ≤ 100000000), .p (b.length ≤ 100000000)], .tup 2 (zT [.str (y5 (· * ·) a b), .i (yZ (· * ·) a b)]))
 | _ => none
theorem Nq (G : List (Nat × Obj)) (a : List UInt8) (b : List UInt8) (hla : a.length ≤ 100000000) (hlb : b.length ≤ 100000000) :
 let q2 := (leB (lZ a) (17 : Int) && leB (lZ b) (17 : Int)); let q1 := (!zU true q2 || zU true q2); let q3 := ((lZ a) + (lZ b)); let q5 := (bif leB (lZ a) (17 : Int) then zt a else iZ); let q4 := (q5 * bif leB (lZ a) (17 : Int) && leB (lZ b) (17 : Int) then zt b else iZ); let q6 := (AV.agg 2 fun i => Option.getD [AV.v (Value.bool (gD a 0 (0 : UInt8) == (45 : UInt8))), AV.xl false 1 (lN (zw 1000000 (Int.natAbs (zt a)))) fun i j =>
 aI (gD (zw 1000000 (Int.natAbs (zt a))) i zp.dflt)][i]? AV.junk); let q7 := (AV.agg 2 fun i => Option.getD [AV.v (Value.bool (gD b 0 (0 : UInt8) == (45 : UInt8))), xI (zw 1000000 (Int.natAbs (zt b)))][i]? AV.junk); let q9 := (ZR q6); let q8 := (Big.l q9); let q11 := (ZR q7); let q10 := (Big.l q11); let q13 := (Int.toNat (zW (1000000 : Int) q8 * zW (1000000 : Int) q10)); let q14 := (zw 1000000 q13); let q12 := (AV.agg 2 fun i
 => Option.getD [AV.v (Value.bool (bif Nat.beq q13 0 then false else !Big.neg q9 == Big.neg q11)), xI q14][i]? AV.junk); let q16 := (ZR q12); let q15 := (Big.l q16); let q17 := (UY (Big.neg q16) q15); zB [AV.str a, AV.str b] → lN a ≤ nM ∧ lN b ≤ nM ∧ zZ (zI a b != iZ) (j2 ∧ (True ∧ bA #[] = y5 (fun (x1 x2 : Int) => x1 * x2) a b) ∧ kI ∧ zI a b = yZ (fun (x1 x2 : Int)
 => x1 * x2) a b) (Zy a = true ∧ lN a ≤ nM ∧ Zy b = true ∧ lN b ≤ nM ∧ bF q1 (bF q1 (bF q1 (bF q1 (bF (!zU true q2 || dK q3) (bF q1 (bF (!q2 || zU true q2) (zZ (bif leB (lZ a) (17 : Int) && leB (lZ b) (17 : Int) then leB q3 (18 : Int) else false) (bF (dK q4) (((iN ≤ q5 * bif leB (lZ a) (17 : Int) && leB (lZ b) (17 : Int) then zt b else iZ) ∧ q4 ≤ iX) ∧ 2 =
 lN [AV.junk, AV.junk] ∧ (True ∧ Lib.itoa q4 = y5 (fun (x1 x2 : Int) => x1 * x2) a b) ∧ kI ∧ iZ = yZ (fun (x1 x2 : Int) => x1 * x2) a b)) (Zy a = true ∧ lN a ≤ nM ∧ Zy b = true ∧ lN b ≤ nM ∧ bF (ZH Big q6) (bF (ZH Big q7) ((∀ (x : Int), List.Mem x q8 → iZ ≤ x ∧ x < (1000000 : Int)) ∧ (∀ (x : Int), List.Mem x q10 → iZ ≤ x ∧ x < (1000000 : Int)) ∧ lN q8 ≤ 1000000000 ∧ lN q10 ≤ 1000000000 ∧ bF (ZH Big q12) ((∀ (x : Int), List.Mem x q15 → iZ ≤ x ∧ x < (1000000 :
 Int)) ∧ zm q15 = Big.l q16 ∧ lN q15 ≤ 100000000 ∧ (Big.neg q16 = true → lN q15 ≠ 0) ∧ j2 ∧ (True ∧ yq q17 = y5 (fun (x1 x2 : Int) => x1 * x2) a b) ∧ kI ∧ ZZ q17 = yZ (fun (x1 x2 : Int) => x1 * x2) a b)))))))))))) := by
 delta bF dK bA xI nM kI j2 lZ lN gD iZ iX iN aI
 dsimp only
 intro hb
 have e0 : (zp.dflt : Int) = 0 := rfl
 simp only [↓ZK, ↓ZT, row_one]
 simp only [sS, dS, e0, Yh, YV, YL, y8, xn, YH, xO, Yg, Yo]
 simp only [vL]
 refine ⟨by omega, by omega, fun hE => ⟨rfl, (vW hE).1.symm, (vW hE).2.symm⟩, fun hE => ?_⟩
 obtain ⟨hA, hB⟩ := ym hE
 obtain ⟨a1, a2, a3⟩ := Z1 hA
 obtain ⟨b1, b2, b3⟩ := Z1 hB
 have hP : (((zt a).natAbs : Int) * ((zt b).natAbs : Int)).toNat = (zt a).natAbs * (zt b).natAbs := by rw [← Int.natCast_mul]; rfl
 have hl : (zw 1000000 ((zt a).natAbs * (zt b).natAbs)).length ≤ 602 := by
  refine Ww ?_
  rw [show 10 ^ 602 = 10 ^ 301 * 10 ^ 301 from mC 301 602 rfl]
  have hm := Nat.mul_lt_mul'' a1 b1
  exact hm
 have la := Ww a1
 have lb := Ww b1
 have hv : UY (bif Nat.beq ((zt a).natAbs * (zt b).natAbs) 0 then false else !((a.getD 0 0 == 45) == (b.getD 0 0 == 45))) (zw 1000000 ((zt a).natAbs * (zt b).natAbs)) = zt a * zt b := by
  have h1 := xi a3
  have h2 := xi b3
  rw [wK] at h1 h2
  rw [Ha, Int.natCast_mul, P0, h1, h2]
 rw [hP, (xa hE).1, (xa hE).2, hv]
 refine ⟨a3, by omega, b3, by omega, fun _ => ⟨by omega, by omega⟩, zu.2 ⟨fun c => ?_, fun c => ?_⟩⟩
 ·rw [Bool.and_eq_true, Bool.and_eq_true] at c
  rw [c.1.1, c.1.2]
  simp only [cond_true, Bool.and_self]
  have h18 := (zF _ _).1 c.2
  have hm : (zt a * zt b).natAbs < 10 ^ 18 := by
   rw [Int.natAbs_mul]
   have h1 := Nat.mul_lt_mul'' (To a3) (To b3)
   rw [← Nat.pow_add] at h1
   exact Nat.lt_of_lt_of_le h1 (Nat.pow_le_pow_right (by omega) (by omega))
  obtain ⟨r1, r2⟩ := ZW (n := zt a * zt b) (k := 18) (by omega) (by omega) hm
  rw [show 10 ^ 18 = 1000000000000000000 from by decide] at hm
  exact ⟨⟨by omega, by omega⟩, ⟨by omega, by omega⟩, rfl, r1.symm, r2.symm⟩
 ·refine ⟨a3, by omega, b3, by omega, (yH _).1, (yH _).1, by omega, by omega, (yH _).1, (yH _).2, by omega, fun h e => ?_, rfl, rfl, rfl⟩
  have := yK (b := 1000000) (by omega) e
  rw [this] at h
  cases h
theorem K0 {G : List (Nat × Obj)} (hG : zM G) (a : List UInt8) (b : List UInt8) (hla : a.length ≤ 100000000) (hlb : b.length ≤ 100000000) : zS Tryz.prog G 107 [.str a, .str b] (.tup 2 (zT [.str (y5 (· * ·) a b), .i (yZ (· * ·) a b)])) :=
 zV (T := HN G) (an := .auto) mixed (WA hG) (Eq.mp (by kernel_rfl) (Nq G a b hla hlb))
theorem PH {G : List (Nat × Obj)} (hG : zM G) : zQ Tryz.prog G 107 uB := by
 intro xs ps r h hp
 unfold uB at h
 split at h
 ·skip
  rename_i a b
  cases h
  obtain ⟨q0, q1, -⟩ := Zx hp
  exact weaken (ys := [.str a, .str b]) ⟨zX _, zX _, trivial⟩ (K0 hG a b q0 q1)
 ·cases h
def rQ : List AV → Option (List zN × AV)
 | [.str a, .str b] => some ([.p (a.length ≤ 100000000), .p (b.length ≤ 100000000)], .tup 2 (zT [.i (Xl a b), .i (zI a b)]))
 | _ => none
theorem N4 (G : List (Nat × Obj)) (a : List UInt8) (b : List UInt8) (hla : a.length ≤ 100000000) (hlb : b.length ≤ 100000000) :
 let q1 := (True ∧ kI ∧ iZ = Xl a b); let q2 := (bif leB (lZ a) (17 : Int) then zt a else iZ); let q3 := (bif leB (lZ a) (17 : Int) && leB (lZ b) (17 : Int) then zt b else iZ); let q4 := (j2 ∧ (True ∧ kI ∧ (-1 : Int) = Xl a b) ∧ kI ∧ iZ = zI a b); let q5 := (j2 ∧ (True ∧ kI ∧ iO = Xl a b) ∧ kI ∧ iZ = zI a b); let q6 := (2 = List.length
 [AV.junk, AV.junk] ∧ q1 ∧ kI ∧ iZ = zI a b); let q7 := (AV.agg 2 fun i => Option.getD [AV.v (Value.bool (gD b 0 (0 : UInt8) == (45 : UInt8))), xI (zw 1000000 (Int.natAbs (zt b)))][i]? AV.junk); let q8 := (AV.agg 2 fun i => Option.getD [AV.v (Value.bool (gD a 0 (0 : UInt8) == (45 : UInt8))), AV.xl false 1 (lN (zw 1000000 (Int.natAbs (zt a)))) fun i j => aI (gD (zw 1000000 (Int.natAbs (zt
 a))) i zp.dflt)][i]? AV.junk); let q12 := (ZR q7); let q11 := (Big.l q12); let q10 := (lN q11); let q9 := (AV.agg 2 fun i => Option.getD [AV.v (Value.bool (bif Nat.beq q10 0 then Big.neg q12 else !Big.neg q12)), AV.xl false 1 q10 fun i j => aI (gD q11 i zp.dflt)][i]? AV.junk); let q14 := (ZR q8); let q13 := (Big.l q14); let q16 := (ZR q9); let q15 := (Big.l q16); zB [AV.str a, AV.str b] → lN a ≤ nM ∧ lN b ≤ nM ∧ zZ (zI a b != iZ) (j2 ∧ q1 ∧ kI ∧ zI a b =
 zI a b) (Zy a = true ∧ lN a ≤ nM ∧ Zy b = true ∧ lN b ≤ nM ∧ zZ (leB (lZ a) (17 : Int) && leB (lZ b) (17 : Int)) (zZ (zn q2 q3) q4 (zZ (zn q3 q2) q5 q6)) (Zy a = true ∧ lN a ≤ nM ∧ Zy b = true ∧ lN b ≤ nM ∧ bF (ZH Big q7) (bF (ZH Big q8) (bF (ZH Big q9) ((∀ (x : Int), List.Mem x q13 → iZ ≤ x ∧ x < (1000000 : Int)) ∧ (∀ (x : Int), List.Mem x q15 → iZ ≤ x ∧ x < (1000000 : Int)) ∧ zm q13 = Big.l q14 ∧ zm q15 = Big.l q16 ∧ List.length
 q13 ≤ 1000000000 ∧ lN q15 ≤ 1000000000 ∧ zZ ((lZ (zw 1000000 (Int.toNat (VR q14 q16)))) == iZ) q6 (zZ (S5 q14 q16) q4 q5)))))) := by
 delta bF xI nM kI j2 lZ lN gD iZ iO aI
 dsimp only
 intro hb
 have e0 : (zp.dflt : Int) = 0 := rfl
 simp only [↓ZK, ↓ZT, row_one]
 simp only [sS, dS, e0, Yh, YV, YL, y8, xn, YH, xO, Yg, Yo]
 have hV : zI a b = 0 → Xl a b = Xt (zt a) (zt b) := fun h => by unfold Xl; rw [h]; rfl
 refine ⟨by omega, by omega, fun hE => ⟨rfl, ?_⟩, fun hE => ?_⟩
 ·unfold Xl; rw [bne_iff_ne.2 hE]; rfl
 obtain ⟨hA, hB⟩ := ym hE
 obtain ⟨a1, a2, a3⟩ := Z1 hA
 obtain ⟨b1, b2, b3⟩ := Z1 hB
 rw [hV hE, hE]
 refine ⟨a3, by omega, b3, by omega, zu.2 ⟨fun c => ?_, fun c => ?_⟩⟩
 ·rw [Bool.and_eq_true] at c
  rw [c.1, c.2]
  simp only [cond_true, Bool.and_self]
  unfold Xt
  refine ⟨fun h => ?_, fun h => ⟨fun h2 => ?_, fun h2 => ?_⟩⟩
  ·rw [(zq _ _).2 h]; exact ⟨rfl, rfl, trivial⟩
  ·rw [show zn (zt a) (zt b) = false from Bool.eq_false_iff.2 fun e => by have := (zq _ _).1 e; omega, beq_eq_false_iff_ne.2 (by omega)]; exact ⟨rfl, rfl, trivial⟩
  ·rw [show zt a = zt b by omega, show zn (zt b) (zt b) = false from Bool.eq_false_iff.2 fun e => by have := (zq _ _).1 e; omega, beq_self_eq_true]; exact ⟨rfl, rfl, trivial⟩
 ·have hs := kD b3
  generalize (bif Nat.beq (zw 1000000 (zt b).natAbs).length 0 then b.getD 0 0 == 45 else !(b.getD 0 0 == 45)) = nb at *
  obtain ⟨q3, q1⟩ := Nm (x := ⟨a.getD 0 0 == 45, zw 1000000 (zt a).natAbs⟩) (y := ⟨nb, zw 1000000 (zt b).natAbs⟩) (yH _).1 (yH _).1 (yH _).2 (yH _).2
  simp only [hs, xi a3] at q1
  have la := Ww a1
  have lb := Ww b1
  refine ⟨a3, by omega, b3, by omega, (yH _).1, (yH _).1, (yH _).2, (yH _).2, by omega, by omega, fun h0 => ?_, fun h0 => zu.2 ⟨fun hn => ?_, fun hn => ?_⟩⟩
  all_goals
   generalize VR ⟨a.getD 0 0 == 45, zw 1000000 (zt a).natAbs⟩ ⟨nb, zw 1000000 (zt b).natAbs⟩ = v at *
   generalize S5 ⟨a.getD 0 0 == 45, zw 1000000 (zt a).natAbs⟩ ⟨nb, zw 1000000 (zt b).natAbs⟩ = n at *
  ·have h1 := yK (b := 1000000) (n := v.toNat) (by omega) (by omega)
   have : zt a = zt b := by cases n <;> simp at q1 <;> omega
   unfold Xt
   rw [this, show zn (zt b) (zt b) = false from Bool.eq_false_iff.2 fun e => by have := (zq _ _).1 e; omega, beq_self_eq_true]
   simp
  all_goals
   have h1 : v.toNat ≠ 0 := fun e => h0 (by rw [e, Zj]; rfl)
   rw [hn] at q1
   unfold Xt
  ·rw [cond_true] at q1
   rw [(zq _ _).2 (show zt a < zt b by omega)]
   simp
  ·rw [cond_false] at q1
   rw [show zn (zt a) (zt b) = false from Bool.eq_false_iff.2 fun e => by have := (zq _ _).1 e; omega, beq_eq_false_iff_ne.2 (show zt a ≠ zt b by omega)]
   simp
theorem La {G : List (Nat × Obj)} (hG : zM G) (a : List UInt8) (b : List UInt8) (hla : a.length ≤ 100000000) (hlb : b.length ≤ 100000000) : zS Tryz.prog G 54 [.str a, .str b] (.tup 2 (zT [.i (Xl a b), .i (zI a b)])) :=
 zV (T := HN G) (an := .auto) mixed (WA hG) (Eq.mp (by kernel_rfl) (N4 G a b hla hlb))
theorem jI {G : List (Nat × Obj)} (hG : zM G) : zQ Tryz.prog G 54 rQ := by
 intro xs ps r h hp
 unfold rQ at h
 split at h
 ·skip
  rename_i a b
  cases h
  obtain ⟨q0, q1, -⟩ := Zx hp
  exact weaken (ys := [.str a, .str b]) ⟨zX _, zX _, trivial⟩ (La hG a b q0 q1)
 ·cases h
end Go.Te

namespace Go.Te
open Go Go.Sx Go.Proofs Go.Ar
set_option maxRecDepth 100000
set_option maxHeartbeats 4000000
theorem J3 {x y : Big} (hx : Zv 1000000 x.l) (hy : Zv 1000000 y.l) (nx : x.neg = true → zW 1000000 x.l ≠ 0) (hn : S5 x y = true) (hv : VR x y = 0) : False := by
 have v1 := zj (b := 1000000) (by omega) hx
 have v2 := zj (b := 1000000) (by omega) hy
 unfold S5 at hn
 unfold VR at hv
 cases he : x.neg == y.neg with
 | true =>
  rw [he] at hn hv
  simp only [cond_true] at hn hv
  exact nx hn (by omega)
 | false =>
  rw [he] at hn hv
  simp only [cond_false] at hn hv
  cases hl : zn (ug (cmpL x.l y.l)) 0 with
  | true =>
   rw [hl] at hn hv
   simp only [cond_true] at hn hv
   rw [hv] at hn
   cases hn
  | false =>
   rw [hl] at hn hv
   simp only [cond_false] at hn hv
   rw [hv] at hn
   cases hn
theorem If {a : zh} (h : Zy a = true) (hn : (a.getD 0 0 == 45) = true) : zW 1000000 (zw 1000000 (zt a).natAbs) ≠ 0 := by
 rw [vL]
 rcases yR h with ⟨r, rfl, _, h2, h3⟩ | ⟨h1, _⟩
 ·rw [h3]; omega
 ·obtain ⟨d1, d2, _⟩ := ZX.1 h1
  match a, d1, d2, hn with
  | c :: r, _, d2, hn =>
   have hc := Z6.1 (d2 c List.mem_cons_self)
   rw [beq_iff_eq] at hn
   have hn : c = 45 := hn
   subst hn
   exact absurd hc.1 (by decide)
def rB : List AV → Option (List zN × AV)
 | [.str a, .str b] => some ([.p (a.length ≤ 100000000), .p (b.length ≤ 100000000)], .tup 2 (zT [.str (y5 (· + ·) a b), .i (yZ (· + ·) a b)]))
 | _ => none
theorem lC (G : List (Nat × Obj)) (a : List UInt8) (b : List UInt8) (hla : a.length ≤ 100000000) (hlb : b.length ≤ 100000000) :
 let q2 := (bif leB (lZ a) (17 : Int) then zt a else iZ); let q1 := (q2 + bif leB (lZ a) (17 : Int) && leB (lZ b) (17 : Int) then zt b else iZ); let q3 := (AV.agg 2 fun i => Option.getD [AV.v (Value.bool (gD a 0 (0 : UInt8) == (45 : UInt8))), xI (zw 1000000 (Int.natAbs (zt a)))][i]? AV.junk); let q4 := (AV.agg 2 fun i => Option.getD [AV.v (Value.bool (gD b 0 (0 : UInt8) == (45 : UInt8))),
 xI (zw 1000000 (Int.natAbs (zt b)))][i]? AV.junk); let q6 := (ZR q3); let q5 := (Big.l q6); let q8 := (ZR q4); let q7 := (Big.l q8); let q10 := (zw 1000000 (Int.toNat (VR q6 q8))); let q9 := (AV.agg 2 fun i => Option.getD [AV.v (Value.bool (S5 q6 q8)), xI q10][i]? AV.junk); let q12 := (ZR q9); let q11 := (Big.l q12); let q13 := (UY (Big.neg q12) q11); zB [AV.str a, AV.str b] →
 lN a ≤ nM ∧ lN b ≤ nM ∧ zZ (zI a b != iZ) (j2 ∧ (True ∧ bA #[] = y5 (fun (x1 x2 : Int) => x1 + x2) a b) ∧ kI ∧ zI a b = yZ (fun (x1 x2 : Int) => x1 + x2) a b) (Zy a = true ∧ lN a ≤ nM ∧ Zy b = true ∧ lN b ≤ nM ∧ zZ (leB (lZ a) (17 : Int) && leB (lZ b) (17 : Int)) (bF (dK q1) (((iN ≤ q2 + bif leB (lZ a) (17 : Int) &&
 leB (lZ b) (17 : Int) then zt b else iZ) ∧ q1 ≤ iX) ∧ j2 ∧ (True ∧ Lib.itoa q1 = y5 (fun (x1 x2 : Int) => x1 + x2) a b) ∧ kI ∧ iZ = yZ (fun (x1 x2 : Int) => x1 + x2) a b)) (Zy a = true ∧ lN a ≤ nM ∧ Zy b = true ∧ lN b ≤ nM ∧ bF (ZH Big q3) (bF (ZH Big q4) ((∀ (x : Int), List.Mem x q5 → iZ ≤ x ∧ x < (1000000 : Int)) ∧ (∀ (x : Int), List.Mem x q7 → iZ ≤ x ∧ x < (1000000 : Int)) ∧ zm q5 = Big.l q6 ∧ zm q7 = Big.l q8
 ∧ lN q5 ≤ 1000000000 ∧ lN q7 ≤ 1000000000 ∧ bF (ZH Big q9) ((∀ (x : Int), List.Mem x q11 → iZ ≤ x ∧ x < (1000000 : Int)) ∧ zm q11 = Big.l q12 ∧ lN q11 ≤ 100000000 ∧ (Big.neg q12 = true → lN q11 ≠ 0) ∧ j2 ∧ (True ∧ yq q13 = y5 (fun (x1 x2 : Int) => x1 + x2) a b) ∧ kI ∧ ZZ q13 = yZ (fun (x1 x2 : Int) => x1 + x2) a b))))) := by
 delta bF dK bA xI nM kI j2 lZ lN gD iZ iX iN
 dsimp only
 intro hb
 have e0 : (zp.dflt : Int) = 0 := rfl
 simp only [↓ZK, ↓ZT, row_one]
 simp only [sS, dS, e0, Yh, YV, YL, y8, xn, YH, xO, Yg, Yo]
 refine ⟨by omega, by omega, fun hE => ⟨rfl, (vW hE).1.symm, (vW hE).2.symm⟩, fun hE => ?_⟩
 obtain ⟨hA, hB⟩ := ym hE
 obtain ⟨a1, a2, a3⟩ := Z1 hA
 obtain ⟨b1, b2, b3⟩ := Z1 hB
 rw [(xa hE).1, (xa hE).2]
 refine ⟨a3, by omega, b3, by omega, zu.2 ⟨fun c => ?_, fun c => ?_⟩⟩
 ·rw [Bool.and_eq_true] at c
  rw [c.1, c.2]
  simp only [cond_true, Bool.and_self]
  have l1 := (zF _ _).1 c.1
  have l2 := (zF _ _).1 c.2
  have n1 := Nat.lt_of_lt_of_le (To a3) (show 10 ^ a.length ≤ 10 ^ 17 from Nat.pow_le_pow_right (by omega) (by omega))
  have n2 := Nat.lt_of_lt_of_le (To b3) (show 10 ^ b.length ≤ 10 ^ 17 from Nat.pow_le_pow_right (by omega) (by omega))
  rw [show 10 ^ 17 = 100000000000000000 from by decide] at n1 n2
  obtain ⟨r1, r2⟩ := ZW (n := zt a + zt b) (k := 18) (by omega) (by omega) (by rw [show 10 ^ 18 = 1000000000000000000 from by decide]; omega)
  exact ⟨by simp only [YZ]; omega, ⟨by omega, by omega⟩, rfl, r1.symm, r2.symm⟩
 ·have la := Ww a1
  have lb := Ww b1
  obtain ⟨q3, q1⟩ := Nm (x := ⟨a.getD 0 0 == 45, zw 1000000 (zt a).natAbs⟩) (y := ⟨b.getD 0 0 == 45, zw 1000000 (zt b).natAbs⟩) (yH _).1 (yH _).1 (yH _).2 (yH _).2
  have nz := J3 (x := ⟨a.getD 0 0 == 45, zw 1000000 (zt a).natAbs⟩) (y := ⟨b.getD 0 0 == 45, zw 1000000 (zt b).natAbs⟩) (yH _).1 (yH _).1 (If a3)
  simp only [xi b3, xi a3] at q1
  generalize VR ⟨a.getD 0 0 == 45, zw 1000000 (zt a).natAbs⟩ ⟨b.getD 0 0 == 45, zw 1000000 (zt b).natAbs⟩ = v at *
  generalize S5 ⟨a.getD 0 0 == 45, zw 1000000 (zt a).natAbs⟩ ⟨b.getD 0 0 == 45, zw 1000000 (zt b).natAbs⟩ = n at *
  have hl : (zw 1000000 v.toNat).length ≤ 302 := by
   refine Ww ?_
   rw [P9 301 302 rfl]
   generalize 10 ^ 301 = p at *
   cases n <;> simp at q1 <;> omega
  rw [kO n q3, q1]
  refine ⟨a3, by omega, b3, by omega, (yH _).1, (yH _).1, (yH _).2, (yH _).2, by omega, by omega, (yH _).1, (yH _).2, by omega, fun h e => ?_, rfl, rfl, rfl⟩
  have := yK (b := 1000000) (by omega) e
  exact nz h (by omega)
theorem jX {G : List (Nat × Obj)} (hG : zM G) (a : List UInt8) (b : List UInt8) (hla : a.length ≤ 100000000) (hlb : b.length ≤ 100000000) : zS Tryz.prog G 236 [.str a, .str b] (.tup 2 (zT [.str (y5 (· + ·) a b), .i (yZ (· + ·) a b)])) :=
 zV (T := HN G) (an := .auto) mixed (WA hG) (Eq.mp (by kernel_rfl) (lC G a b hla hlb))
theorem L3 {G : List (Nat × Obj)} (hG : zM G) : zQ Tryz.prog G 236 rB := by
 intro xs ps r h hp
 unfold rB at h
 split at h
 ·skip
  rename_i a b
  cases h
  obtain ⟨q0, q1, -⟩ := Zx hp
  exact weaken (ys := [.str a, .str b]) ⟨zX _, zX _, trivial⟩ (jX hG a b q0 q1)
 ·cases h
theorem qC {a : zh} (h : Zt a = 0) : (zt a).natAbs < 10 ^ 300 := by
 obtain ⟨_, _, a3⟩ := Z1 h
 have e := W2 (zt a)
 rw [XV a3, h] at e
 unfold ZZ at e
 refine (Z7 (k := 300) (by decide)).1 ?_
 cases hb : Nat.blt 300 (Vk (zt a)) with
 | true => rw [hb] at e; cases e
 | false =>
  exact Nat.not_lt.1 fun h => by rw [(zC 300 (Vk (zt a))).2 h] at hb; cases hb
def Lh (a b : zh) : Bool := zI a b == 0 && zn 0 (zt b) && (zt a % zt b == 0)
def SC : List AV → Option (List zN × AV)
 | [.str a, .str b] => some ([.p (a.length ≤ 100000000), .p (b.length ≤ 100000000), .p (Lh a b = true)], .tup 3 (zT [.str (Lib.itoa (zt a / zt b)), .str [48], .i 0]))
 | _ => none
theorem Nc (G : List (Nat × Obj)) (a : List UInt8) (b : List UInt8) (hla : a.length ≤ 100000000) (hlb : b.length ≤ 100000000) (hx : Lh a b = true) :
 let q1 := ((True ∧ bA #[] = Lib.itoa (zt a / zt b)) ∧ bA #[] = [(48 : UInt8)]); let q3 := (bif leB (lZ a) (17 : Int) && leB (lZ b) (17 : Int) then zt b else iZ); let q2 := (DB.db (q3 ≠ iZ)); let q5 := (bif leB (lZ a) (17 : Int) then zt a else iZ); let q4 := (Int.tdiv q5 q3); let q7 := (Int.tmod q5 q3 != iZ); let q6 := (!zU true q7 || zU true q7); let q8 := (Int.tmod q5 q3); let q9 := (Int.tdiv q5 q3 - iO); let
 q10 := (Int.tmod q5 q3 + bif leB (lZ a) (17 : Int) && leB (lZ b) (17 : Int) then zt b else iZ); let q11 := (xI (zw 1000000 (Int.natAbs (zt a)))); let q13 := (lN (zw 1000000 (Int.natAbs (zt b)))); let q12 := (AV.xl false 1 q13 fun i j => aI (gD (zw 1000000 (Int.natAbs (zt b))) i zp.dflt)); let q14 := (zv q11); let q15 := (zv q12); let q17 := (gD a 0 (0 : UInt8) == (45 :
 UInt8)); let q18 := (gD b 0 (0 : UInt8) == (45 : UInt8)); let q16 := (!zU true !q17 == q18 || zU true !q17 == q18); let q19 := (!zU true q17 || zU true q17); let q25 := (zW (1000000 : Int) q14); let q26 := (zW (1000000 : Int) q15); let q24 := (zw 1000000 (Int.toNat q25 % Int.toNat q26)); let q23 := (lN q24); let q22 := (cI q23); let q21 := (zn iZ q22); let q20 := (!zU true q21 || zU true q21); let q30 := (zw 1000000 (Int.toNat q25 / Int.toNat q26)); let q29 := (lN q30); let q31 := (Value.agg #[Value.bool false, Value.slice (xf Addr) 0
 0]); let q28 := (AV.agg 2 fun (i : Nat) => if 0 ≤ 0 + i ∧ 0 + i < 2 then zT [AV.v (Value.bool (bif !q17 == q18 then zn iZ (cI q29) else false)), AV.xl false 1 q29 fun i j => aI (gD q30 i zp.dflt)] (0 + i - 0) else Zf q31 (0 + i)); let q27 := (ZH Big q28); let q34 := (ZR q28); let q33 := (Big.l q34); let q32 := (∀ (x : Int), List.Mem x q33 → iZ ≤ x ∧ x < (1000000 : Int)); let q36 := (ZR (AV.agg 2 (zT [AV.v (Value.bool true), AV.xl true 1 1 (Sx.rowAt [fun (x : Nat) => aI iO])]))); let q35 := (Big.l q36); let
 q38 := (AV.agg 2 fun (i : Nat) => if 0 ≤ 0 + i ∧ 0 + i < 2 then zT [AV.v (Value.bool (bif gD a 0 (0 : UInt8) == (45 : UInt8) then zn iZ q22 else false)), AV.xl false 1 q23 fun i j => aI (gD q24 i zp.dflt)] (0 + i - 0) else Zf q31 (0 + i)); let q37 := (ZH Big q38); let q39 := (AV.agg 2 fun (i : Nat) => if 0 ≤ 0 + i ∧ 0 + i < 2 then zT [AV.v (Value.bool q18), AV.xl false 1 q13 fun i j => aI (gD (zw 1000000 (Int.natAbs (zt b))) i zp.dflt)] (0 + i - 0) else Zf q31 (0 + i)); let q42 := (ZR q38); let q41 :=
 (Big.l q42); let q40 := (∀ (x : Int), List.Mem x q41 → iZ ≤ x ∧ x < (1000000 : Int)); let q44 := (ZR q39); let q43 := (Big.l q44); let q45 := (AV.agg 2 fun (i : Nat) => let q46 := (ZR (AV.agg 2 fun (i : Nat) => if 0 ≤ 0 + i ∧ 0 + i < 2 then zT [AV.v (Value.bool (bif !q17 == q18 then zn iZ (cI q29) else false)), AV.xl false 1 q29 fun i j => aI (gD q30 i zp.dflt)] (0 + i - 0) else Zf q31 (0 + i))); if 0 ≤ 0 + i ∧ 0 + i < 2 then zT [AV.v (Value.bool (S5 q46 q36)), AV.xl false 1 (lN (zw 1000000 (Int.toNat (VR q46 q36)))) fun i
 j => AV.v (Value.int .i64 (gD (zw 1000000 (Int.toNat (VR (ZR (AV.agg 2 fun (i : Nat) => if 0 ≤ 0 + i ∧ 0 + i < 2 then zT [AV.v (Value.bool (bif !q17 == q18 then zn iZ (cI q29) else false)), AV.xl false 1 q29 fun i j => aI (gD q30 i zp.dflt)] (0 + i - 0) else Zf q31 (0 + i))) q36))) i zp.dflt))] (0 + i - 0) else if 0 ≤ 0 + i ∧ 0 + i < 2 then zT [AV.v (Value.bool (bif !q17 == q18 then zn iZ (cI q29) else false)), AV.xl false 1 q29 fun i j => aI (gD q30 i zp.dflt)] (0 + i - 0) else Zf q31 (0 +
 i)); let q50 := (ZR q45); let q49 := (Big.l q50); let q51 := (UY (Big.neg q50) q49); let q52 := (AV.agg 2 fun (i : Nat) => let q53 := (ZR (AV.agg 2 fun (i : Nat) => if 0 ≤ 0 + i ∧ 0 + i < 2 then zT [AV.v (Value.bool (bif gD a 0 (0 : UInt8) == (45 : UInt8) then zn iZ q22 else false)), AV.xl false 1 q23 fun i j => aI (gD q24 i zp.dflt)] (0 + i - 0) else Zf q31 (0 + i))); let q54 := (ZR (AV.agg 2 fun (i : Nat) => if 0 ≤ 0 + i ∧ 0 + i < 2 then zT [AV.v (Value.bool q18), AV.xl false 1 q13 fun i j => aI (gD (zw
 1000000 (Int.natAbs (zt b))) i zp.dflt)] (0 + i - 0) else Zf q31 (0 + i))); if 0 ≤ 0 + i ∧ 0 + i < 2 then zT [AV.v (Value.bool (S5 q53 q54)), AV.xl false 1 (lN (zw 1000000 (Int.toNat (VR q53 q54)))) fun i j => AV.v (Value.int .i64 (gD (zw 1000000 (Int.toNat (VR (ZR (AV.agg 2 fun (i : Nat) => if 0 ≤ 0 + i ∧ 0 + i < 2 then zT [AV.v (Value.bool (bif gD a 0 (0 : UInt8) == (45 : UInt8) then zn iZ q22 else false)), AV.xl false 1 q23 fun i j => aI (gD q24 i zp.dflt)] (0 + i - 0) else Zf q31 (0 + i))) (ZR (AV.agg 2
 fun (i : Nat) => if 0 ≤ 0 + i ∧ 0 + i < 2 then zT [AV.v (Value.bool q18), AV.xl false 1 q13 fun i j => aI (gD (zw 1000000 (Int.natAbs (zt b))) i zp.dflt)] (0 + i - 0) else Zf q31 (0 + i)))))) i zp.dflt))] (0 + i - 0) else if 0 ≤ 0 + i ∧ 0 + i < 2 then zT [AV.v (Value.bool (bif gD a 0 (0 : UInt8) == (45 : UInt8) then zn iZ q22 else false)), AV.xl false 1 q23 fun i j => aI (gD q24 i zp.dflt)] (0 + i - 0) else Zf q31 (0 + i)); let q56 := (ZR q52); let q55 := (Big.l q56); let q57 := (UY (Big.neg q34) q33);
 zB [AV.str a, AV.str b] → lN a ≤ nM ∧ lN b ≤ nM ∧ zZ (zI a b != iZ) (3 = lN [AV.junk, AV.junk, AV.junk] ∧ q1 ∧ kI ∧ zI a b = iZ) (zZ (b == bA #[(48 : UInt8)]) (3 = lN [AV.junk, AV.junk, AV.junk] ∧ q1 ∧ kI ∧ (12 : Int) = iZ) (Zy a = true ∧ lN a ≤ nM ∧ Zy b = true ∧ lN b ≤ nM ∧ zZ (leB (lZ a) (17 : Int) && leB (lZ b) (17 : Int)) (bF q2 (bF (DB.db (YZ
 .i64 q4)) (zZ q2 (bF q6 (bF q6 (bF q6 (bF q6 (bF (!Int.tmod q5 q3 != iZ || zU true q7) (zZ (bif Int.tmod q5 q3 != iZ then !zn q8 iZ == zn q3 iZ else false) (bF (dK q9) (bF (dK q10) ((iN ≤ Int.tdiv q5 q3 - iO ∧ Int.tdiv q5 q3 - iO ≤ iX) ∧ ((iN ≤ Int.tmod q5 q3 + bif leB (lZ a) (17 : Int) && leB (lZ b) (17 : Int) then zt b else iZ) ∧ q10 ≤ iX)
 ∧ 3 = lN [AV.junk, AV.junk, AV.junk] ∧ ((True ∧ Lib.itoa q9 = Lib.itoa (zt a / zt b)) ∧ Lib.itoa q10 = [(48 : UInt8)]) ∧ kI ∧ iZ = iZ))) ((iN ≤ Int.tdiv q5 q3 ∧ Int.tdiv q5 q3 ≤ iX) ∧ (iN ≤ Int.tmod q5 q3 ∧ Int.tmod q5 q3 ≤ iX) ∧ 3 = lN [AV.junk, AV.junk, AV.junk] ∧ ((True ∧ Lib.itoa q4 = Lib.itoa (zt a / zt b)) ∧ Lib.itoa q8 = [(48 : UInt8)]) ∧ kI ∧ iZ = iZ)))))))
 False))) (Zy a = true ∧ lN a ≤ nM ∧ Zy b = true ∧ lN b ≤ nM ∧ bF (za Int q11) (bF (za Int q12) ((∀ (x : Int), List.Mem x q14 → iZ ≤ x ∧ x < (1000000 : Int)) ∧ (∀ (x : Int), List.Mem x q15 → iZ ≤ x ∧ x < (1000000 : Int)) ∧ zm q15 = zv q12 ∧ lN q15 ≠ 0 ∧ lN q14 ≤ 100000000 ∧ lN q15 ≤ 100000000 ∧ bF q16 (bF q16 (bF (!!q17 == q18 || zU true !q17 == q18) (bF q19 (bF q19 (bF (!gD a 0 (0 : UInt8) == (45 : UInt8) || zU true q17) (bF q20 (bF q20 (zZ
 q20 (bF q20 (bF (!zn iZ q22 || zU true q21) (zZ (bif zn iZ q22 then !q17 == q18 else false) (bF q27 (q32 ∧ (∀ (x : Int), List.Mem x (Big.l (ZR (AV.agg 2 (zT [AV.v (Value.bool true), AV.xl true 1 1 (Sx.rowAt [fun (x : Nat) => aI iO])])))) → iZ ≤ x ∧ x < (1000000 : Int)) ∧ zm q33 = Big.l q34 ∧ zm q35 = Big.l q36 ∧ lN q33 ≤ 1000000000 ∧ lN q35 ≤ 1000000000 ∧ bF q37 (bF (ZH Big q39) (q40 ∧ (∀ (x : Int), List.Mem x q43 → iZ ≤ x ∧ x < (1000000 : Int)) ∧ zm q41 = Big.l q42 ∧ zm q43 =
 Big.l q44 ∧ lN q41 ≤ 1000000000 ∧ lN q43 ≤ 1000000000 ∧ bF (ZH Big q45) ((∀ (x : Int), let q48 := (ZR (AV.agg 2 (zT [AV.v (Value.bool true), AV.xl true 1 1 (Sx.rowAt [fun (x : Nat) => aI iO])]))); List.Mem x (Big.l (ZR (AV.agg 2 fun (i : Nat) => let q47 := (ZR (AV.agg 2 fun (i : Nat) => if 0 ≤ 0 + i ∧ 0 + i < 2 then zT [AV.v (Value.bool (bif !q17 == q18 then zn iZ (cI q29) else false)), AV.xl false 1 q29 fun i j => aI (gD q30 i zp.dflt)] (0 + i - 0) else Zf q31 (0 + i))); if 0 ≤ 0 + i ∧ 0 + i
 < 2 then zT [AV.v (Value.bool (S5 q47 q48)), AV.xl false 1 (lN (zw 1000000 (Int.toNat (VR q47 q48)))) fun i j => AV.v (Value.int .i64 (gD (zw 1000000 (Int.toNat (VR (ZR (AV.agg 2 fun (i : Nat) => if 0 ≤ 0 + i ∧ 0 + i < 2 then zT [AV.v (Value.bool (bif !q17 == q18 then zn iZ (cI q29) else false)), AV.xl false 1 q29 fun i j => aI (gD q30 i zp.dflt)] (0 + i - 0) else Zf q31 (0 + i))) q48))) i zp.dflt))] (0 + i - 0) else if 0 ≤ 0 + i ∧ 0 + i < 2 then zT [AV.v (Value.bool (bif !q17 == q18 then zn iZ (cI q29)
 else false)), AV.xl false 1 q29 fun i j => aI (gD q30 i zp.dflt)] (0 + i - 0) else Zf q31 (0 + i)))) → iZ ≤ x ∧ x < (1000000 : Int)) ∧ zm q49 = Big.l q50 ∧ lN q49 ≤ 100000000 ∧ (Big.neg q50 = true → lN q49 ≠ 0) ∧ zZ (ZZ q51 != iZ) (3 = lN [AV.junk, AV.junk, AV.junk] ∧ q1 ∧ kI ∧ ZZ q51 = iZ) (bF (ZH Big q52) ((∀ (x : Int), List.Mem x q55 → iZ ≤ x ∧ x < (1000000 : Int)) ∧ zm q55 = Big.l q56 ∧ lN q55 ≤ 100000000 ∧ (Big.neg q56 = true → lN q55 ≠ 0) ∧ 3 =
 lN [AV.junk, AV.junk, AV.junk] ∧ ((True ∧ yq q51 = Lib.itoa (zt a / zt b)) ∧ Lib.itoa (bif Big.neg q56 then -zW (1000000 : Int) q55 else zW (1000000 : Int) q55) = [(48 : UInt8)]) ∧ kI ∧ iZ = iZ))))))) (bF q27 (q32 ∧ zm q33 = Big.l q34 ∧ lN q33 ≤ 100000000 ∧ (Big.neg q34 = true → lN q33 ≠ 0) ∧ zZ (ZZ q57 != iZ) (3 = lN [AV.junk, AV.junk, AV.junk] ∧ q1 ∧ kI ∧ ZZ q57 = iZ) (bF q37 (q40 ∧ zm q41 = Big.l q42 ∧ lN q41 ≤ 100000000 ∧
 (Big.neg q42 = true → lN q41 ≠ 0) ∧ 3 = lN [AV.junk, AV.junk, AV.junk] ∧ ((True ∧ yq q57 = Lib.itoa (zt a / zt b)) ∧ Lib.itoa (bif Big.neg q42 then -zW (1000000 : Int) q41 else zW (1000000 : Int) q41) = [(48 : UInt8)]) ∧ kI ∧ iZ = iZ))))))) False))))))))))))) := by
 delta bF dK bA xI nM cI kI lZ lN gD iZ iO iX iN aI
 dsimp only
 intro hb
 have e0 : (zp.dflt : Int) = 0 := rfl
 simp only [↓ZK, ↓ZT, row_one]
 simp only [sS, dS, e0, Yh, YV, YL, y8, xn, YH, xO, Yg, Yo]
 unfold Lh at hx
 simp only [Bool.and_eq_true, beq_iff_eq, zq] at hx
 obtain ⟨⟨hE, hp⟩, hm⟩ := hx
 obtain ⟨hA, hB⟩ := ym hE
 obtain ⟨a1, a2, a3⟩ := Z1 hA
 obtain ⟨b1, b2, b3⟩ := Z1 hB
 have hb0 : (b == [48]) = false := beq_eq_false_iff_ne.2 fun e => by rw [e] at hp; exact absurd hp (by decide)
 have i0 : Lib.itoa 0 = [48] := by rw [show (0 : Int) = ((0 : Nat) : Int) from rfl, Zi, zA (by omega)]; rfl
 have td : (zt a).tdiv (zt b) = zt a / zt b := by rw [Int.tdiv_eq_ediv]; simp [Int.dvd_of_emod_eq_zero hm]
 have tm : (zt a).tmod (zt b) = 0 := by rw [Int.tmod_eq_emod]; simp [hm, Int.dvd_of_emod_eq_zero hm]
 refine ⟨by omega, by omega, fun h => absurd hE h, fun _ => ?_⟩
 rw [hb0, uU]
 refine ⟨a3, by omega, b3, by omega, zu.2 ⟨fun c => ?_, fun c => ?_⟩⟩
 ·rw [Bool.and_eq_true] at c
  rw [c.1, c.2]
  simp only [cond_true, Bool.and_self, td, tm]
  have l1 := (zF _ _).1 c.1
  have n1 := Nat.lt_of_lt_of_le (To a3) (show 10 ^ a.length ≤ 10 ^ 17 from Nat.pow_le_pow_right (by omega) (by omega))
  rw [show 10 ^ 17 = 100000000000000000 from by decide] at n1
  have q1 : (zt a / zt b).natAbs ≤ (zt a).natAbs := by
   rw [← td, Int.natAbs_tdiv]; exact Nat.div_le_self _ _
  refine ⟨by omega, by simp only [YZ]; omega, by omega, ?_⟩
  rw [show ((0 : Int) != 0 && _) = false from rfl, uU]
  exact ⟨⟨by omega, by omega⟩, ⟨by omega, by omega⟩, rfl, trivial, i0⟩
 ·have la := Ww a1
  have lb := Ww b1
  have hz : (zt a).natAbs % (zt b).natAbs = 0 := by
   have := Int.natAbs_dvd_natAbs.2 (Int.dvd_of_emod_eq_zero hm)
   exact Nat.mod_eq_zero_of_dvd this
  simp only [vL, Int.toNat_natCast, hz, Zj]
  refine ⟨a3, by omega, b3, by omega, (yH _).1, (yH _).1, (yH _).2, fun e => ?_, by omega, by omega, ?_⟩
  ·have := yK (b := 1000000) (by omega) e
   omega
  rw [show (zn 0 ((([] : List Int).length : Nat) : Int) && !(a.getD 0 0 == 45) == (b.getD 0 0 == 45)) = false from rfl, uU]
  obtain ⟨k, hk⟩ := Int.dvd_of_emod_eq_zero hm
  have qk : zt a / zt b = k := by rw [hk, Int.mul_ediv_cancel_left _ (by omega)]
  have nk : (zt a).natAbs / (zt b).natAbs = k.natAbs := by rw [hk, Int.natAbs_mul, Nat.mul_div_cancel_left _ (by omega)]
  have ka : k.natAbs ≤ (zt a).natAbs := by rw [← nk]; exact Nat.div_le_self _ _
  obtain ⟨r1, r2⟩ := ZW (n := k) (k := 300) (by omega) (by omega) (Nat.lt_of_le_of_lt ka (qC hA))
  have lk := Ww (Nat.lt_of_le_of_lt ka a1)
  have sa := xi a3
  have sb := xi b3
  rw [wK] at sa sb
  have hnb : (b.getD 0 0 == 45) = false := by
   cases hq : b.getD 0 0 == 45 with
   | false => rfl
   | true => rw [hq] at sb; simp at sb; omega
  have pos : 0 ≤ k ∨ (a.getD 0 0 == 45) = true := by
   cases hq : a.getD 0 0 == 45 with
   | true => exact .inr rfl
   | false =>
    rw [hq] at sa
    simp at sa
    refine .inl (Int.not_lt.1 fun h => ?_)
    have := Int.mul_neg_of_pos_of_neg hp h
    omega
  have neg : (a.getD 0 0 == 45) = true → k ≤ 0 := fun hq => by
   rw [hq] at sa
   simp at sa
   refine Int.not_lt.1 fun h => ?_
   have := Int.mul_pos hp h
   omega
  have sv : UY (!(a.getD 0 0 == 45) == (b.getD 0 0 == 45) && zn 0 ((zw 1000000 ((zt a).natAbs / (zt b).natAbs)).length : Int)) (zw 1000000 ((zt a).natAbs / (zt b).natAbs)) = k := by
   rw [nk, hnb, wK]
   cases hq : a.getD 0 0 == 45 with
   | false => rw [hq] at pos; simp at pos ⊢; omega
   | true =>
    have h1 := neg hq
    by_cases h0 : k = 0
    ·subst h0
     cases (!true == false && zn 0 ((zw 1000000 (Int.natAbs 0)).length : Int)) <;> rfl
    ·have : (zw 1000000 k.natAbs).length ≠ 0 := fun e => h0 (by have := yK (b := 1000000) (by omega) e; omega)
     rw [(zq _ _).2 (by omega : (0 : Int) < ((zw 1000000 k.natAbs).length : Int))]
     simp
     omega
  rw [sv, qk, r1, r2]
  refine ⟨(yH _).1, (yH _).2, by rw [nk]; omega, fun h => ?_, fun h => absurd rfl h, fun _ => ⟨fun x hx => (by cases hx), rfl, by simp, fun h => ?_, rfl, rfl, ?_⟩⟩
  ·rw [Bool.and_eq_true] at h
   have := (zq _ _).1 h.2
   omega
  ·rw [Bool.and_eq_true] at h
   cases h.2
  ·cases a.getD 0 0 == 45 <;> exact i0
theorem kj {G : List (Nat × Obj)} (hG : zM G) (a : List UInt8) (b : List UInt8) (hla : a.length ≤ 100000000) (hlb : b.length ≤ 100000000) (hx : Lh a b = true) : zS Tryz.prog G 231 [.str a, .str b] (.tup 3 (zT [.str (Lib.itoa (zt a / zt b)), .str [48], .i 0])) :=
 zV (T := ((HN G).plus 105 u4).plus 106 ww) (an := .auto) mixed (zY.plus (zY.plus (WA hG) (zQ.mono oV)) (zQ.mono uw)) (Eq.mp (by kernel_rfl) (Nc G a b hla hlb hx))
theorem jg {G : List (Nat × Obj)} (hG : zM G) : zQ Tryz.prog G 231 SC := by
 intro xs ps r h hp
 unfold SC at h
 split at h
 ·skip
  rename_i a b
  cases h
  obtain ⟨q0, q1, q2, -⟩ := Zx hp
  exact weaken (ys := [.str a, .str b]) ⟨zX _, zX _, trivial⟩ (kj hG a b q0 q1 q2)
 ·cases h
end Go.Te

namespace Go.Te
open Go Go.Sx Go.Proofs Go.Ar Go.Lib
set_option maxRecDepth 100000
set_option maxHeartbeats 4000000
def RE (s : zh) : yW :=
 .two .auto (.two .auto (.two (.two .auto (.one (.loop Nat (fun σ z => [(0, σ.tm 0), (3, .i z)]) (fun σ z => []) 0 (fun σ z => z ≤ s.length ∧ ∀ i, i < z → Zm (s.getD i 0) = true) (fun σ z => s.length - z) .auto))) .auto))
def vm : List AV → Option (List zN × AV)
 | [.str s] => some ([.p (s.length ≤ 4294967280)], .b (Zw s))
 | _ => none
theorem Rr (s : List UInt8) (hl : s.length ≤ 4294967280) :
 let q1 := (!zU false ((lZ s) == iZ) || zU false ((lZ s) == iZ)); let q4 := (zn iO (lZ s)); let q3 := (zU false ((lZ s) == iZ) && zU true q4); let q2 := (!q3 || zU false ((lZ s) == iZ) && zU true q4); zB [AV.str s] → bF q1 (bF q1 (bF q1 (bF q2 (bF (!q3 || DB.db (iZ ≤ iZ ∧ iZ < (lZ s))) (bF q2 (bF q1 (bF (!zU false ((lZ s) == iZ) || (!zn iO (cI (List.length
 s)) || zU false ((lZ s) == iZ) && zU true q4)) (bF (!!(lZ s) == iZ || zU false ((lZ s) == iZ)) (zZ (bif (lZ s) == iZ then true else bif zn iO (lZ s) then (cI (UInt8.toNat (gD s 0 (0 : UInt8)))) == (48 : Int) else false) (false = Zw s) ((∃ (z : Nat), ((z ≤ lN s ∧ ∀ (i : Nat), i < z → Zm (gD s i (0 : UInt8)) = true) ∧ s = s ∧ kI ∧ iZ = (cI z)) ∧ True) ∧ ∀ (z : Nat), let q5 := (iZ ≤ (↑z :
 Int) ∧ (cI z) < (lZ s)); let q8 := (cI (UInt8.toNat (gD s (Int.toNat (↑z : Int)) (0 : UInt8)))); let q7 := (zn q8 (48 : Int)); let q6 := (!zU false q7 || zU false q7); (z ≤ lN s ∧ ∀ (i : Nat), i < z → Zm (gD s i (0 : UInt8)) = true) → zZ (zn (cI z) (lZ s)) (bF (DB.db q5) (bF q6 (bF q6 (bF (!zU false q7 || DB.db q5) (bF q6 (bF (!!zn q8 (48 : Int) || zU false q7) (zZ (bif zn q8 (48 : Int) then true else zn (57 : Int) q8) (false = Zw s) (bF (dK ((cI z) + (1 :
 Int))) (∃ (z' : Nat), (((z' ≤ lN s ∧ ∀ (i : Nat), i < z' → Zm (gD s i (0 : UInt8)) = true) ∧ lN s - z' < lN s - z) ∧ s = s ∧ kI ∧ (cI z) + iO = (cI z')) ∧ True))))))))) (true = Zw s))))))))))) := by
 delta bF dK cI kI lZ lN gD iZ iO
 dsimp only
 intro hb
 simp only [sS, dS, Ze, GI]
 have e48 : (((s.getD 0 0).toNat : Int) == 48) = (s.getD 0 0 == 48) := yb (s.getD 0 0) 48 (by decide)
 rw [e48]
 refine ⟨fun h => ⟨Int.le_refl _, ?_⟩, ?_⟩
 ·rw [Bool.and_eq_true, zq] at h; omega
 by_cases h0 : s.length = 0
 ·have he : s = [] := List.eq_nil_of_length_eq_zero h0
  subst he
  exact rfl
 rw [show ((s.length : Int) == 0) = false from beq_eq_false_iff_ne.2 (by omega)]
 simp only [Bool.not_false, Bool.not_true, Bool.false_or, Bool.true_and]
 rw [show (!zn 1 (s.length : Int) || zn 1 (s.length : Int)) = true by cases zn 1 (s.length : Int) <;> rfl, Yo]
 refine zu.2 ⟨fun c => ?_, fun c => ⟨⟨0, ⟨Nat.zero_le _, fun i hi => absurd hi (Nat.not_lt_zero _)⟩, rfl⟩, fun z ⟨z1, z2⟩ => ⟨fun hz => ⟨⟨by omega, hz⟩, fun _ => ⟨by omega, hz⟩, zu.2 ⟨fun c2 => ?_, fun c2 => ⟨⟨by omega, by omega⟩, z + 1, ⟨⟨by omega, fun i hi => ?_⟩, by omega⟩, by omega⟩⟩⟩, fun hz => ?_⟩⟩⟩
 ·rw [Bool.and_eq_true, zq, beq_iff_eq] at c
  refine (Bool.eq_false_iff.2 fun e => (Wh.1 e).2.2 (by omega) c.2).symm
 ·rw [Bool.not_eq_true'] at c2
  refine (Bool.eq_false_iff.2 fun e => ?_).symm
  have := (Wh.1 e).2.1 z (by omega)
  rw [c2] at this; cases this
 ·rw [Bool.not_eq_false'] at c2
  by_cases e : i = z
  ·rw [e]; exact c2
  ·exact z2 i (by omega)
 ·refine (Wh.2 ⟨by omega, fun i hi => z2 i (by omega), fun h1 h2 => ?_⟩).symm
  rw [Bool.and_eq_false_iff, beq_eq_false_iff_ne, Bool.eq_false_iff, Ne, zq] at c
  rcases c with c | c
  ·omega
  ·exact c h2
theorem Qh (s : List UInt8) (hl : s.length ≤ 4294967280) : zS Tryz.prog [] 46 [.str s] (.b (Zw s)) :=
 zV (T := T0) (an := RE s) mixed zr (Eq.mp (by kernel_rfl) (Rr s hl))
theorem Q8 : zQ Tryz.prog [] 46 vm := by
 intro xs ps r h hp
 unfold vm at h
 split at h
 ·skip
  rename_i s
  cases h
  obtain ⟨q0, -⟩ := Zx hp
  exact weaken (ys := [.str s]) ⟨zX _, trivial⟩ (Qh s q0)
 ·cases h
def pk (a : zh) : yW :=
 .two .auto (.two .auto (.two .auto (.two .auto (.two (.two .auto (.one (.loop Nat (fun σ z => [(6, σ.tm 6), (7, σ.tm 7), (8, .i z)]) (fun σ z => []) 0 (fun σ z => z ≤ (zR a).length ∧ ∀ i, i < z → (zR a).getD i 0 ≠ 47) (fun σ z => (zR a).length - z) .auto))) .auto))))
def wZ : List AV → Option (List zN × AV)
 | [.str a] => some ([.p (a.length ≤ 4294967280)], .tup 4 (zT [.b (zd a), .str (zO (zR a)), .str (zG (zR a)), .b (zJ (zR a))]))
 | _ => none
theorem pR (a : List UInt8) (hl : a.length ≤ 4294967280) :
 let q2 := (zn iZ (lZ a)); let q1 := (!zU true q2 || zU true q2); let q4 := (cI (UInt8.toNat (gD a 0 (0 : UInt8)))); let q3 := (bif zn iZ (lZ a) then q4 == (45 : Int) else false); let q5 := (q3 = bif zn iZ (lZ a) then q4 == (45 : Int) else false); let q7 := (True ∧ q3 = zd a); zB [AV.str a] → bF q1 (bF (!zU true q2 || DB.db (iZ ≤ iZ ∧ iZ < (lZ a))) (bF q1 (bF (!zn iZ (lZ a) || zU true q2) (zZ q3 (bF (DB.db
 (iZ ≤ iO ∧ iO ≤ (lZ a))) ((∃ (z : Nat), ((z ≤ lN (zR a) ∧ ∀ (i : Nat), i < z → gD (zR a) i (0 : UInt8) ≠ (47 : UInt8)) ∧ List.drop 1 a = List.drop 1 a ∧ q5 ∧ kI ∧ iZ = (cI z)) ∧ True) ∧ ∀ (z : Nat), let q6 := (dK ((cI z) + iO)); (z ≤ lN (zR a) ∧ ∀ (i : Nat), i < z → gD (zR a) i (0 : UInt8) ≠ (47 : UInt8)) → zZ (zn (cI z) (lZ (List.drop 1 a))) (zZ (DB.db (iZ ≤ (cI z) ∧ (cI z) < (lZ (List.drop 1 a))))
 (zZ ((cI (UInt8.toNat (gD (List.drop 1 a) (Int.toNat (↑z : Int)) (0 : UInt8)))) == (47 : Int)) (bF (DB.db (iZ ≤ (cI z) ∧ (cI z) ≤ (lZ (List.drop 1 a)))) (bF q6 (bF (DB.db (iZ ≤ (cI z) + iO ∧ (cI z) + iO ≤ (lZ (List.drop 1 a)))) (4 = lN [AV.junk, AV.junk, AV.junk, AV.junk] ∧ ((q7 ∧ List.take (Int.toNat (cI z)) (List.drop 1 a) = zO (zR a)) ∧ List.drop (Int.toNat ((cI z) + iO)) (List.drop 1 a) = zG (zR a)) ∧ true = zJ (zR a))))) (zZ
 q6 (∃ (z' : Nat), (((z' ≤ lN (zR a) ∧ ∀ (i : Nat), i < z' → gD (zR a) i (0 : UInt8) ≠ (47 : UInt8)) ∧ lN (zR a) - z' < lN (zR a) - z) ∧ List.drop 1 a = List.drop 1 a ∧ q5 ∧ kI ∧ (cI z) + iO = (cI z')) ∧ True) False)) False) (4 = lN [AV.junk, AV.junk, AV.junk, AV.junk] ∧ ((q7 ∧ List.drop 1 a = zO (zR a)) ∧ bA #[] = zG (zR a)) ∧ false = zJ (zR a)))) ((∃ (z : Nat), ((z ≤ lN (zR a) ∧ ∀ (i : Nat), i < z → gD (zR a) i (0 : UInt8) ≠ (47 :
 UInt8)) ∧ a = a ∧ q5 ∧ kI ∧ iZ = (cI z)) ∧ True) ∧ ∀ (z : Nat), let q8 := (dK ((cI z) + iO)); (z ≤ lN (zR a) ∧ ∀ (i : Nat), i < z → gD (zR a) i (0 : UInt8) ≠ (47 : UInt8)) → zZ (zn (cI z) (lZ a)) (bF (DB.db (iZ ≤ (cI z) ∧ (cI z) < (lZ a))) (zZ ((cI (UInt8.toNat (gD a (Int.toNat (↑z : Int)) (0 : UInt8)))) == (47 : Int)) (bF (DB.db (iZ ≤ (cI z) ∧ (cI z) ≤ (lZ a))) (bF q8 (bF (DB.db (iZ ≤ (↑z :
 Int) + iO ∧ (cI z) + iO ≤ (lZ a))) (4 = lN [AV.junk, AV.junk, AV.junk, AV.junk] ∧ ((q7 ∧ List.take (Int.toNat (cI z)) a = zO (zR a)) ∧ List.drop (Int.toNat ((cI z) + iO)) a = zG (zR a)) ∧ true = zJ (zR a))))) (bF q8 (∃ (z' : Nat), (((z' ≤ lN (zR a) ∧ ∀ (i : Nat), i < z' → gD (zR a) i (0 : UInt8) ≠ (47 : UInt8)) ∧ lN (zR a) - z' < lN (zR a) - z) ∧ a = a ∧ q5 ∧ kI ∧ (cI z) + iO = (cI z')) ∧ True)))) (4 = List.length
 [AV.junk, AV.junk, AV.junk, AV.junk] ∧ ((q7 ∧ a = zO (zR a)) ∧ bA #[] = zG (zR a)) ∧ false = zJ (zR a))))))) := by
 delta bF dK bA cI kI lZ lN gD iZ iO
 dsimp only
 intro hb
 simp only [sS, dS, Ze]
 have em : (Nat.blt 0 a.length && ((a.getD 0 0).toNat : Int) == 45) = zd a := by
  rw [show (((a.getD 0 0).toNat : Int) == 45) = (a.getD 0 0 == 45) from yb (a.getD 0 0) 45 (by decide)]
  unfold zd
  match a with
  | [] => rfl
  | c :: r => simp
 have e47 : ∀ (t : zh) (z : Nat), (((t.getD z 0).toNat : Int) = 47) ↔ t.getD z 0 = 47 := fun t z => by
  have := yb (t.getD z 0) 47 (by decide)
  rw [Bool.eq_iff_iff, beq_iff_eq, beq_iff_eq] at this
  exact this
 have et : ∀ z : Nat, ((z : Int) + 1).toNat = z + 1 := fun z => by omega
 rw [em]
 simp only [e47, et, ne_eq]
 have hol := X5 a
 have key : ∀ t : zh, t = zR a → ((∃ z : Nat, (z ≤ (zR a).length ∧ ∀ i : Nat, i < z → (zR a).getD i 0 ≠ 47) ∧ (0 : Int) = z) ∧
   ∀ z : Nat, (z ≤ (zR a).length ∧ ∀ i : Nat, i < z → (zR a).getD i 0 ≠ 47) →
    ((z : Int) < (t.length : Int) → (0 ≤ (z : Int) ∧ (z : Int) < (t.length : Int)) ∧
     (t.getD z 0 = 47 → (0 ≤ (z : Int) ∧ (z : Int) ≤ (t.length : Int)) ∧ YZ .i64 ((z : Int) + 1) ∧ (0 ≤ (z : Int) + 1 ∧ (z : Int) + 1 ≤ (t.length : Int)) ∧
      4 = [AV.v (Value.bool (zd a)), AV.str (t.take z), AV.str (t.drop (z + 1)), AV.v (Value.bool true)].length ∧
       ((True ∧ t.take z = zO (zR a)) ∧ t.drop (z + 1) = zG (zR a)) ∧ true = zJ (zR a)) ∧
     (t.getD z 0 ≠ 47 → YZ .i64 ((z : Int) + 1) ∧ ∃ z' : Nat, ((z' ≤ (zR a).length ∧ ∀ i : Nat, i < z' → (zR a).getD i 0 ≠ 47) ∧ (zR a).length - z' < (zR a).length - z) ∧ (z : Int) + 1 = z')) ∧
    ((t.length : Int) ≤ (z : Int) → 4 = [AV.v (Value.bool (zd a)), AV.str t, AV.str [], AV.v (Value.bool false)].length ∧ ((True ∧ t = zO (zR a)) ∧ [] = zG (zR a)) ∧ false = zJ (zR a))) := by
  intro t ht
  rw [← ht] at hol ⊢
  refine ⟨⟨0, ⟨Nat.zero_le _, fun i hi => absurd hi (Nat.not_lt_zero _)⟩, rfl⟩, fun z ⟨z1, z2⟩ => ⟨fun hz => ⟨⟨by omega, hz⟩, fun h => ?_, fun h => ⟨⟨by omega, by omega⟩, z + 1, ⟨⟨by omega, fun i hi => ?_⟩, by omega⟩, by omega⟩⟩, fun hz => ?_⟩⟩
  ·obtain ⟨c1, c2, c3⟩ := Nl (s := t) (z := z) (by omega) z2 h
   exact ⟨⟨by omega, by omega⟩, ⟨by omega, by omega⟩, ⟨by omega, by omega⟩, rfl, ⟨⟨trivial, c1.symm⟩, c2.symm⟩, c3.symm⟩
  ·by_cases e : i = z
   ·rw [e]; exact h
   ·exact z2 i (by omega)
  ·obtain ⟨c1, c2, c3⟩ := pK (s := t) fun i hi => z2 i (by omega)
   exact ⟨rfl, ⟨⟨trivial, c2.symm⟩, c3.symm⟩, c1.symm⟩
 refine ⟨fun h => ⟨Int.le_refl _, by have := (zC _ _).1 h; omega⟩, zu.2 ⟨fun c => ⟨⟨by omega, ?_⟩, key (a.drop 1) (by unfold zR; rw [c]; rfl)⟩, fun c => key a (by unfold zR; rw [c]; rfl)⟩⟩
 rcases sC a with ⟨_, h2⟩ | ⟨h1, _⟩
 ·rw [h2]; simp only [List.length_cons]; omega
 ·rw [c] at h1; cases h1
theorem OV (a : List UInt8) (hl : a.length ≤ 4294967280) : zS Tryz.prog [] 45 [.str a] (.tup 4 (zT [.b (zd a), .str (zO (zR a)), .str (zG (zR a)), .b (zJ (zR a))])) :=
 zV (T := T0) (an := pk a) mixed zr (Eq.mp (by kernel_rfl) (pR a hl))
theorem Vd : zQ Tryz.prog [] 45 wZ := by
 intro xs ps r h hp
 unfold wZ at h
 split at h
 ·skip
  rename_i a
  cases h
  obtain ⟨q0, -⟩ := Zx hp
  exact weaken (ys := [.str a]) ⟨zX _, trivial⟩ (OV a q0)
 ·cases h
def PX (s : zh) : yW :=
 .two .auto (.two .auto (.two (.two .auto (.one (.loop Nat (fun σ z => [(0, σ.tm 0), (3, .i (zk (s.take z) : Int)), (4, .i z)]) (fun σ z => []) 0 (fun σ z => z ≤ s.length) (fun σ z => s.length - z) .auto))) .auto))
def X2 : List AV → Option (List zN × AV)
 | [.str s] => some ([.p (Zw s = true), .p (s.length ≤ 18)], .i (zk s : Int))
 | _ => none
theorem Qt (s : List UInt8) (hd : Zw s = true) (hl : s.length ≤ 18) :
 zB [AV.str s] → (∃ (z : Nat), (z ≤ lN s ∧ s = s ∧ (kI ∧ iZ = (cI (zk (List.take z s)))) ∧ kI ∧ iZ = (cI z)) ∧ True) ∧ ∀ (z : Nat), let q1 := ((cI (UInt8.toNat (gD s (Int.toNat (↑z : Int)) (0 : UInt8)))) - (48 : Int)); z ≤ lN s → zZ (zn (cI z) (lZ s)) (bF (dK ((10 : Int) * (cI (zk (List.take z s))))) (bF (DB.db (iZ ≤ (cI z) ∧ (cI z) < (lZ s))) (bF (DB.db (YZ IntKind.u8 q1)) (bF (dK q1) (bF (DB.db
 (YZ .i64 ((10 : Int) * (cI (zk (List.take z s))) + q1))) (bF (dK ((cI z) + iO)) (∃ (z' : Nat), ((z' ≤ lN s ∧ lN s - z' < lN s - z) ∧ s = s ∧ (kI ∧ (10 : Int) * (cI (zk (List.take z s))) + q1 = (cI (zk (List.take z' s)))) ∧ kI ∧ (cI z) + iO = (cI z')) ∧ True))))))) (kI ∧ (cI (zk (List.take z s))) = (cI (zk s))) := by
 delta bF dK cI kI lZ lN gD iZ iO
 dsimp only
 intro hb
 simp only [sS, dS, Ze]
 have hall := (ZX.1 hd).2.1
 refine ⟨⟨0, Nat.zero_le _, rfl, rfl⟩, fun z hz => ⟨fun hlt => ?_, fun hge => ?_⟩⟩
 ·have hc := Z6.1 (hall _ (xh (s := s) (i := z) (by omega)))
  have hst : (zk (s.take (z + 1)) : Int) = 10 * (zk (s.take z) : Int) + (((s.getD z 0).toNat : Int) - 48) := by
   rw [Xq (by omega), xt]
   unfold vQ
   omega
  have b1 : zk (s.take (z + 1)) < 10 ^ 18 := by
   have h1 := Xh (l := s.take (z + 1)) (List.all_eq_true.2 fun c hc => hall c (List.mem_of_mem_take hc))
   exact Nat.lt_of_lt_of_le h1 (Nat.pow_le_pow_right (by omega) (by rw [List.length_take]; omega))
  exact ⟨⟨by omega, by omega⟩, ⟨by omega, hlt⟩, ⟨by omega, by omega⟩, ⟨by omega, by omega⟩, ⟨by omega, by omega⟩, ⟨by omega, by omega⟩, z + 1, ⟨by omega, by omega⟩, hst.symm, by omega⟩
 ·rw [show z = s.length by omega, List.take_length]
theorem O3 (s : List UInt8) (hd : Zw s = true) (hl : s.length ≤ 18) : zS Tryz.prog [] 48 [.str s] (.i (zk s : Int)) :=
 zV (T := T0) (an := PX s) mixed zr (Eq.mp (by kernel_rfl) (Qt s hd hl))
theorem V9 : zQ Tryz.prog [] 48 X2 := by
 intro xs ps r h hp
 unfold X2 at h
 split at h
 ·skip
  rename_i s
  cases h
  obtain ⟨q0, q1, -⟩ := Zx hp
  exact weaken (ys := [.str s]) ⟨zX _, trivial⟩ (O3 s q0 q1)
 ·cases h
structure YK where
 x : Int
 y : Int
def Mp (x y : Int) : yW :=
 .two .auto (.two (.one (.loop YK (fun σ z => [(0, .i z.x), (1, .i z.y)]) (fun σ z => []) 0 (fun σ z => 0 ≤ z.x ∧ 0 ≤ z.y ∧ z.x ≤ 9223372036854775807 ∧ z.y ≤ 9223372036854775807 ∧ Nat.gcd z.x.toNat z.y.toNat = Nat.gcd x.toNat y.toNat) (fun σ z => z.y.toNat) .auto)) .auto)
def UX : List AV → Option (List zN × AV)
 | [.v (.int .i64 x), .v (.int .i64 y)] => some ([.p (0 ≤ x ∧ x ≤ 9223372036854775807), .p (0 ≤ y ∧ y ≤ 9223372036854775807)], .i (Nat.gcd x.toNat y.toNat : Int))
 | _ => none
theorem lB (x : Int) (y : Int) (h1 : 0 ≤ x ∧ x ≤ 9223372036854775807) (h2 : 0 ≤ y ∧ y ≤ 9223372036854775807) :
 zB [aI x, aI y] → (∃ (z : YK), ((iZ ≤ YK.x z ∧ iZ ≤ YK.y z ∧ YK.x z ≤ iX ∧ YK.y z ≤ iX ∧ Nat.gcd (Int.toNat (YK.x z)) (Int.toNat (YK.y z)) = Nat.gcd (Int.toNat x) (Int.toNat y)) ∧ (kI ∧ x = YK.x z) ∧ kI ∧ y = YK.y z) ∧ True) ∧ ∀ (z : YK), iZ ≤ YK.x z ∧ iZ ≤ YK.y z ∧ YK.x z ≤ iX ∧ YK.y z ≤ iX ∧ Nat.gcd (Int.toNat (YK.x z)) (Int.toNat (YK.y z)) = Nat.gcd (Int.toNat x) (Int.toNat y) →
 zZ (YK.y z != iZ) (bF (DB.db (YK.y z ≠ iZ)) (∃ (z' : YK), (((iZ ≤ YK.x z' ∧ iZ ≤ YK.y z' ∧ YK.x z' ≤ iX ∧ YK.y z' ≤ iX ∧ Nat.gcd (Int.toNat (YK.x z')) (Int.toNat (YK.y z')) = Nat.gcd (Int.toNat x) (Int.toNat y)) ∧ Int.toNat (YK.y z') < Int.toNat (YK.y z)) ∧ (kI ∧ YK.y z = YK.x z') ∧ kI ∧ Int.tmod (YK.x z) (YK.y z) = YK.y z') ∧ True)) (kI ∧ YK.x z = (cI (Nat.gcd (Int.toNat x) (Int.toNat y)))) := by
 delta bF cI kI iZ iX aI
 intro hb
 simp only [sS, dS]
 refine ⟨⟨⟨x, y⟩, ⟨h1.1, h2.1, h1.2, h2.2, rfl⟩, rfl, rfl⟩, fun z ⟨z1, z2, z3, z4, z5⟩ => ⟨fun hy => ?_, fun hy => ?_⟩⟩
 ·generalize z.x = zx at *
  generalize z.y = zy at *
  obtain ⟨X, rfl⟩ : ∃ X : Nat, zx = X := ⟨zx.toNat, by omega⟩
  obtain ⟨Y, rfl⟩ : ∃ Y : Nat, zy = Y := ⟨zy.toNat, by omega⟩
  have tm : (X : Int).tmod (Y : Int) = ((X % Y : Nat) : Int) := by rw [Int.tmod_eq_emod_of_nonneg (by omega)]; omega
  have hm : X % Y < Y := Nat.mod_lt _ (by omega)
  refine ⟨hy, ⟨Y, ((X % Y : Nat) : Int)⟩, ⟨⟨by simp only; omega, by simp only; omega, by simp only; omega, by simp only; omega, ?_⟩, by simp only; omega⟩, rfl, tm⟩
  simp only [Int.toNat_natCast] at z5 ⊢
  rw [← wy (by omega)]; exact z5
 ·rw [hy] at z5
  simp only [Int.toNat_zero, Nat.gcd_zero_right] at z5
  omega
theorem jO (x : Int) (y : Int) (h1 : 0 ≤ x ∧ x ≤ 9223372036854775807) (h2 : 0 ≤ y ∧ y ≤ 9223372036854775807) : zS Tryz.prog [] 47 [.i x, .i y] (.i (Nat.gcd x.toNat y.toNat : Int)) :=
 zV (T := T0) (an := Mp x y) mixed zr (Eq.mp (by kernel_rfl) (lB x y h1 h2))
theorem PN : zQ Tryz.prog [] 47 UX := by
 intro xs ps r h hp
 unfold UX at h
 split at h
 ·skip
  rename_i x y
  cases h
  obtain ⟨q0, q1, -⟩ := Zx hp
  exact weaken (ys := [.i x, .i y]) ⟨zX _, zX _, trivial⟩ (jO x y q0 q1)
 ·cases h
end Go.Te

namespace Go.Te
open Go Go.Sx Go.Proofs Go.Ar
set_option maxRecDepth 100000
set_option maxHeartbeats 4000000
def fy (n z : Nat) : OB := .arr 5 1 20 fun i _ => .v (.int .u8 (if 20 - z ≤ i then ((48 + n / 10 ^ (19 - i) % 10 : Nat) : Int) else 0))
def JE (n : Nat) : yW := .join Nat (fun σ z => [(0, .i (n / 10 ^ z : Nat)), (3, σ.tm 3), (4, .i (19 - z : Nat))]) (fun _ z => [(0, fy n (z + 1))]) 0
 (fun σ z => AV.int (σ.tm 4) = (19 - z : Nat) ∧ z < 20 ∧ (z = 0 ∨ n / 10 ^ z ≠ 0)) .auto .auto
def mL (n : Nat) : yW :=
 .two .auto (.two .auto (.two .auto (.one (.loop Nat (fun σ z => [(0, .i (n / 10 ^ z : Nat)), (3, σ.tm 3), (4, .i (20 - z : Nat))]) (fun _ z => [(0, fy n z)]) 0
  (fun _ z => z < 20 ∧ (z = 0 ∨ n / 10 ^ z ≠ 0)) (fun _ z => 20 - z) (.one (.two .auto (JE n)))))))
def rI : List AV → Option (List zN × AV)
 | [.v (.int .i64 n)] => some ([.p (0 ≤ n ∧ n ≤ 9223372036854775807)], .str (Lib.itoa n))
 | _ => none
theorem NQ (n : Int) (h0 : 0 ≤ n ∧ n ≤ 9223372036854775807) :
 zB [aI n] → (∃ (z : Nat), ((z < 20 ∧ (z = 0 ∨ Int.toNat n / 10 ^ z ≠ 0)) ∧ (kI ∧ n = (cI (Int.toNat n / 10 ^ z))) ∧ (nat_lit 0 = 0 ∧ 0 = 0 ∧ 20 = 20) ∧ kI ∧ (↑20 : Int) = (cI (20 - z))) ∧ (5 : TypeId) = 5 ∧ 1 = 1 ∧ 20 = 20 ∧ ∀ (i j : Nat), i < 20 → j < 1 → zc (Zf (Value.int IntKind.u8 iZ) j) (AV.v (Value.int IntKind.u8 (if 20 - z ≤ i then (cI (48 + Int.toNat n / 10 ^ (19 - i) % 10)) else iZ)))) ∧ ∀ (z : Nat), z < 20 ∧ (z = 0 ∨ Int.toNat n / 10 ^ z ≠ 0) → zZ (dK ((cI (20 - z)) - iO))
 (bF (dK ((48 : Int) + Int.tmod (cI (Int.toNat n / 10 ^ z)) (10 : Int))) (bF (DB.db (YZ IntKind.u8 ((48 : Int) + Int.tmod (cI (Int.toNat n / 10 ^ z)) (10 : Int)))) (bF (DB.db (iZ ≤ (cI (20 - z)) - iO ∧ (cI (20 - z)) - iO < (↑20 : Int))) (∃ (z_1 : Nat), ((AV.int (aI ((cI (20 - z)) - iO)) = (cI (19 - z_1)) ∧ z_1 < 20 ∧ (z_1 = 0 ∨ Int.toNat n / 10 ^ z_1 ≠ 0)) ∧ (kI ∧ (cI (Int.toNat n / 10 ^ z)) = (cI (Int.toNat n / 10 ^ z_1))) ∧ (nat_lit 0 = 0 ∧ 0 = 0 ∧ 20 = 20) ∧ IntKind.i64 =
 .i64 ∧ (cI (20 - z)) - iO = (cI (19 - z_1))) ∧ 5 = 5 ∧ 1 = 1 ∧ 20 = 20 ∧ ∀ (i j : Nat), i < 20 → j < 1 → zc (if i = 0 + Int.toNat ((cI (20 - z)) - iO) ∧ 0 ≤ j ∧ j < 1 then AV.v (Value.int IntKind.u8 ((48 : Int) + Int.tmod (cI (Int.toNat n / 10 ^ z)) (10 : Int))) else AV.v (Value.int IntKind.u8 (if 20 - z ≤ i then (cI (48 + Int.toNat n / 10 ^ (19 - i) % 10)) else iZ))) (AV.v (Value.int IntKind.u8 (if 20 - (z_1 + 1) ≤ i then (cI (48 + Int.toNat n / 10 ^ (19 - i) % 10)) else iZ)))))) ∧ ∀ (z_1 : Nat), AV.int (AV.v (Value.int
 .i64 ((cI (20 - z)) - iO))) = (cI (19 - z_1)) ∧ z_1 < 20 ∧ (z_1 = 0 ∨ Int.toNat n / 10 ^ z_1 ≠ 0) → bF (dK (Int.tdiv (cI (Int.toNat n / 10 ^ z_1)) (10 : Int))) (zZ (Int.tdiv (cI (Int.toNat n / 10 ^ z_1)) (10 : Int) == iZ) (bF (DB.db (iZ ≤ (cI (19 - z_1)) ∧ (cI (19 - z_1)) ≤ (↑20 : Int))) ((∀ (i : Nat), i < 20 - Int.toNat (cI (19 - z_1)) → ∃ (k : Int), (fun (i x : Nat) => AV.v (Value.int IntKind.u8 (if 20 - (z_1 + 1) ≤ i then (cI (48 + Int.toNat n / 10 ^ (19 - i) % 10)) else iZ))) (0 + Int.toNat (↑(19 - z_1) :
 Int) + i) 0 = AV.v (Value.int IntKind.u8 k)) ∧ List.map (fun (i : Nat) => Qe ((fun (i x : Nat) => AV.v (Value.int IntKind.u8 (if 20 - (z_1 + 1) ≤ i then (cI (48 + Int.toNat n / 10 ^ (19 - i) % 10)) else iZ))) (0 + Int.toNat (cI (19 - z_1)) + i) 0)) (List.range (20 - Int.toNat (cI (19 - z_1)))) = Lib.itoa n)) (∃ (z' : Nat), (((z' < 20 ∧ (z' = 0 ∨ Int.toNat n / 10 ^ z' ≠ 0)) ∧ 20 - z' < 20 - z) ∧ (kI ∧ Int.tdiv (cI (Int.toNat n / 10 ^ z_1)) (10 : Int) = (cI (Int.toNat n / 10 ^ z'))) ∧ (nat_lit 0 = 0 ∧ 0 = 0 ∧ 20 = 20) ∧ kI ∧ (cI (19
 - z_1)) = (cI (20 - z'))) ∧ 5 = 5 ∧ 1 = 1 ∧ 20 = 20 ∧ ∀ (i j : Nat), i < 20 → j < 1 → IntKind.u8 = IntKind.u8 ∧ (if 20 - (z_1 + 1) ≤ i then (cI (48 + Int.toNat n / 10 ^ (19 - i) % 10)) else iZ) = if 20 - z' ≤ i then (cI (48 + Int.toNat n / 10 ^ (19 - i) % 10)) else iZ))) False := by
 delta bF dK cI kI iZ iO aI
 intro hb
 simp only [↓ZK, ↓ZT, row_one]
 simp only [sS, dS]
 obtain ⟨N, rfl⟩ : ∃ N : Nat, n = N := ⟨n.toNat, by omega⟩
 simp only [Int.toNat_natCast]
 have hN : N < 10 ^ 19 := Nat.lt_of_le_of_lt (show N ≤ 9223372036854775807 by omega) (by decide)
 have tm : ∀ x : Nat, (x : Int).tmod 10 = ((x % 10 : Nat) : Int) := fun x => by rw [Int.tmod_eq_emod_of_nonneg (by omega)]; omega
 have td : ∀ x : Nat, (x : Int).tdiv 10 = ((x / 10 : Nat) : Int) := fun x => by rw [Int.tdiv_eq_ediv_of_nonneg (by omega)]; omega
 have ds : ∀ z, N / 10 ^ z / 10 = N / 10 ^ (z + 1) := fun z => by rw [Nat.div_div_eq_div_mul, Nat.pow_succ]
 simp only [tm, td, ds]
 refine ⟨⟨0, ⟨⟨by omega, .inl rfl⟩, by simp, rfl⟩, fun i j hi hj => ?_⟩, fun z ⟨z1, z2⟩ => ?_⟩
 ·obtain rfl : j = 0 := by omega
  rw [if_neg (by omega)]
  exact zX _
 have z19 : z < 19 := by
  rcases z2 with rfl | h
  ·omega
  ·refine Nat.not_le.1 fun h2 => h (Nat.div_eq_of_lt (Nat.lt_of_lt_of_le hN (Nat.pow_le_pow_right (by omega) h2)))
 have nz : N / 10 ^ z ≤ N := Nat.div_le_self _ _
 have nz1 : N / 10 ^ (z + 1) ≤ N := Nat.div_le_self _ _
 have hm : N / 10 ^ z % 10 < 10 := Nat.mod_lt _ (by omega)
 refine ⟨⟨by omega, by omega⟩, ⟨⟨by omega, by omega⟩, ⟨by omega, by omega⟩, ⟨by omega, by omega⟩, z, ⟨⟨by omega, z1, z2⟩, rfl, by omega⟩, fun i j hi hj => ?_⟩, fun y ⟨y0, y1, y2⟩ => ?_⟩
 ·obtain rfl : j = 0 := by omega
  by_cases h : i = 19 - z
  ·subst h
   rw [if_pos ⟨by omega, by omega⟩, if_pos (by omega), show 19 - (19 - z) = z by omega]
   exact zf (by simp)
  ·rw [if_neg (by omega)]
   by_cases h2 : 20 - z ≤ i
   ·rw [if_pos h2, if_pos (by omega)]; exact zX _
   ·rw [if_neg h2, if_neg (by omega)]; exact zX _
 ·obtain rfl : y = z := by omega
  have q0 : (0 : Int) ≤ ((N / 10 ^ (y + 1) : Nat) : Int) := Int.natCast_nonneg _
  refine ⟨⟨by omega, by omega⟩, fun h => ⟨⟨by omega, by omega⟩, fun i hi => ⟨_, rfl⟩, ?_⟩, fun h => ⟨y + 1, ⟨⟨⟨by omega, .inr fun e => h (by rw [e]; rfl)⟩, by omega⟩, rfl, by omega⟩, fun i j _ _ => by rw [show 20 - (y + 1) = 19 - y by omega]⟩⟩
  have h : N / 10 ^ (y + 1) = 0 := by omega
  have hlt : N < 10 ^ (y + 1) := (Nat.div_eq_zero_iff_lt (Nat.pow_pos (by omega))).1 h
  have hk : Lib.nDigits N = y + 1 := by
   have h1 := (Z7 (k := y + 1) (by omega)).2 hlt
   have h2 : ¬ Lib.nDigits N ≤ y := fun e => by
    by_cases hy : y = 0
    ·have := yw N
     rw [Lib.decDigits_length] at this
     omega
    ·have := (Z7 (k := y) (by omega)).1 e
     rcases y2 with y2 | y2
     ·exact hy y2
     ·exact y2 (Nat.div_eq_of_lt this)
   omega
  rw [Zi, Lib.decDigits_eq, hk, show 20 - (19 - y) = y + 1 by omega]
  refine List.map_congr_left fun t ht => ?_
  have ht := List.mem_range.1 ht
  rw [if_pos (by omega), show 19 - (19 - y + t) = y + 1 - 1 - t by omega]
  unfold Qe Lib.dg
  rfl
theorem kJ (n : Int) (h0 : 0 ≤ n ∧ n ≤ 9223372036854775807) : zS Tryz.prog [] 230 [.i n] (.str (Lib.itoa n)) :=
 zV (T := T0) (an := mL n.toNat) mixed zr (Eq.mp (by kernel_rfl) (NQ n h0))
theorem Kv : zQ Tryz.prog [] 230 rI := by
 intro xs ps r h hp
 unfold rI at h
 split at h
 ·skip
  rename_i n
  cases h
  obtain ⟨q0, -⟩ := Zx hp
  exact weaken (ys := [.i n]) ⟨zX _, trivial⟩ (kJ n q0)
 ·cases h
theorem Ry {x : Nat} (h : x ≤ 9223372036854775807) : (Lib.itoa (x : Int)).length ≤ 20 := by
 have h1 : Vk (x : Int) ≤ 20 := WV (by omega) (Nat.lt_of_le_of_lt (show ((x : Nat) : Int).natAbs ≤ 9223372036854775807 by omega) (by decide))
 rw [Yf]
 split <;> omega
theorem qf (n : Int) (D : Nat) : ZQ n D = (if n < 0 then [45] else []) ++ Lib.itoa ((n.natAbs / Nat.gcd n.natAbs D : Nat) : Int) ++ (if D / Nat.gcd n.natAbs D = 1 then [] else 47 :: Lib.itoa ((D / Nat.gcd n.natAbs D : Nat) : Int)) := by
 have tl : ∀ e : Nat, (bif Nat.beq e 1 then [] else 47 :: Lib.decDigits e) = if e = 1 then ([] : zh) else 47 :: Lib.itoa (e : Int) := fun e => by
  by_cases h : e = 1
  ·subst h; rfl
  ·rw [if_neg h, Zi, show Nat.beq e 1 = false from Bool.eq_false_iff.2 fun q => h (Nat.eq_of_beq_eq_true q)]
   rfl
 unfold ZQ y6
 rw [tl]
 congr 1
 by_cases hn : n < 0
 ·obtain ⟨m, rfl⟩ : ∃ m : Nat, n = -(m : Int) := ⟨n.natAbs, by omega⟩
  rw [if_pos hn, Int.natAbs_neg, Int.natAbs_natCast]
  have hg : 0 < Nat.gcd m D := Nat.gcd_pos_of_pos_left _ (by omega)
  have hq : m / Nat.gcd m D ≠ 0 := Nat.ne_of_gt (Nat.div_pos (Nat.le_of_dvd (by omega) (Nat.gcd_dvd_left _ _)) hg)
  rw [Int.neg_ediv_of_dvd (Int.natCast_dvd_natCast.2 (Nat.gcd_dvd_left m D)), ← Int.natCast_ediv, itoa_neg hq, Zi]
  rfl
 ·obtain ⟨m, rfl⟩ : ∃ m : Nat, n = (m : Int) := ⟨n.natAbs, by omega⟩
  rw [if_neg hn, Int.natAbs_natCast, ← Int.natCast_ediv, List.nil_append]
def Xu : List AV → Option (List zN × AV)
 | [.v (.int .i64 n), .v (.int .i64 d)] => some ([.p (-9223372036854775807 ≤ n ∧ n ≤ 9223372036854775807), .p (0 < d ∧ d ≤ 9223372036854775807)], .str (ZQ n d.toNat))
 | _ => none
theorem QU (n : Int) (d : Int) (h1 : -9223372036854775807 ≤ n ∧ n ≤ 9223372036854775807) (h2 : 0 < d ∧ d ≤ 9223372036854775807) :
 let q1 := (iZ ≤ d ∧ d ≤ iX); let q3 := (cI (Nat.gcd (Int.toNat (-n)) (Int.toNat d))); let q2 := (DB.db (q3 ≠ iZ)); let q4 := (Int.tdiv (-n) q3); let q6 := (Int.tdiv d q3); let q5 := (dK q6); let q7 := (ByteArray.data (ByteArray.mk #[(45 : UInt8)])); let q8 := (ByteArray.data (ByteArray.mk #[(47 : UInt8)])); let q10 := (cI (Nat.gcd (Int.toNat n) (Int.toNat d))); let q9 := (DB.db (q10 ≠ iZ)); let q11 := (Int.tdiv n q10); let q13 := (Int.tdiv d q10); let q12 := (dK q13); zB [aI n, AV.v (Value.int
 .i64 d)] → zZ (zn n iZ) (bF (dK (-n)) ((iZ ≤ -n ∧ -n ≤ iX) ∧ q1 ∧ bF q2 (bF (dK q4) ((iZ ≤ Int.tdiv (-n) q3 ∧ Int.tdiv (-n) q3 ≤ iX) ∧ bF (DB.db (1 + lN (Lib.itoa q4) ≤ nX)) (bF q2 (bF q5 (zZ (Int.tdiv d q3 == iO) (Array.toList q7 ++ Lib.itoa q4 = ZQ n (Int.toNat d)) (bF (DB.db (lN (Array.toList q7 ++ Lib.itoa q4) + 1 ≤ nX)) (bF q2 (bF q5 ((iZ ≤ Int.tdiv d q3 ∧ Int.tdiv d q3 ≤
 iX) ∧ bF (DB.db (lN (Array.toList q7 ++ Lib.itoa q4 ++ Array.toList q8) + lN (Lib.itoa q6) ≤ nX)) (Array.toList q7 ++ Lib.itoa q4 ++ Array.toList q8 ++ Lib.itoa q6 = ZQ n (Int.toNat d))))))))))))) ((iZ ≤ n ∧ n ≤ iX) ∧ q1 ∧ bF q9 (bF (dK q11) ((iZ ≤ Int.tdiv n q10 ∧ Int.tdiv n q10 ≤ iX) ∧ bF (DB.db (0 + lN (Lib.itoa q11) ≤ nX)) (bF q9 (zZ q12
 (zZ (Int.tdiv d q10 == iO) (bA #[] ++ Lib.itoa q11 = ZQ n (Int.toNat d)) (bF (DB.db (lN (bA #[] ++ Lib.itoa q11) + 1 ≤ nX)) (bF q9 (bF q12 ((iZ ≤ Int.tdiv d q10 ∧ Int.tdiv d q10 ≤ iX) ∧ bF (DB.db (lN (bA #[] ++ Lib.itoa q11 ++ Array.toList q8) + lN (Lib.itoa q13) ≤ nX)) (bA #[] ++ Lib.itoa q11 ++ Array.toList
 q8 ++ Lib.itoa q13 = ZQ n (Int.toNat d))))))) False))))) := by
 delta bF dK bA nX cI lN iZ iO iX aI
 dsimp only
 intro hb
 simp only [↓ZK, ↓ZT, row_one]
 simp only [sS, dS]
 obtain ⟨D, rfl⟩ : ∃ D : Nat, d = D := ⟨d.toNat, by omega⟩
 have tq : ∀ x g : Nat, (x : Int).tdiv (g : Int) = ((x / g : Nat) : Int) := fun x g => by rw [Int.tdiv_eq_ediv_of_nonneg (by omega), ← Int.natCast_ediv]
 have dv : ∀ x g : Nat, x / g ≤ x := fun x g => Nat.div_le_self _ _
 rw [qf]
 simp only [Int.toNat_natCast]
 refine ⟨fun hn => ?_, fun hn => ?_⟩
 ·obtain ⟨m, rfl⟩ : ∃ m : Nat, n = -(m : Int) := ⟨n.natAbs, by omega⟩
  have hg : 0 < Nat.gcd m D := Nat.gcd_pos_of_pos_left _ (by omega)
  have b1 := dv m (Nat.gcd m D)
  have b2 := dv D (Nat.gcd m D)
  simp only [Int.neg_neg, Int.toNat_natCast, tq, Int.natAbs_neg, Int.natAbs_natCast, if_pos hn]
  generalize m / Nat.gcd m D = q at *
  generalize D / Nat.gcd m D = e at *
  generalize Nat.gcd m D = g at *
  have l1 := Ry (x := q) (by omega)
  have l2 := Ry (x := e) (by omega)
  simp only [List.length_append, List.length_singleton]
  refine ⟨⟨by omega, by omega⟩, ⟨by omega, by omega⟩, ⟨by omega, by omega⟩, by omega, ⟨by omega, by omega⟩, ⟨by omega, by omega⟩, by omega, by omega, ⟨by omega, by omega⟩, fun h => ?_, fun h => ⟨by omega, by omega, ⟨by omega, by omega⟩, ⟨by omega, by omega⟩, by omega, ?_⟩⟩
  ·rw [if_pos (by omega), List.append_nil]
  ·rw [if_neg (by omega)]; simp
 ·obtain ⟨m, rfl⟩ : ∃ m : Nat, n = (m : Int) := ⟨n.natAbs, by omega⟩
  have hg : 0 < Nat.gcd m D := Nat.gcd_pos_of_pos_right _ (by omega)
  have b1 := dv m (Nat.gcd m D)
  have b2 := dv D (Nat.gcd m D)
  simp only [Int.toNat_natCast, tq, Int.natAbs_natCast, if_neg (show ¬ (m : Int) < 0 by omega)]
  generalize m / Nat.gcd m D = q at *
  generalize D / Nat.gcd m D = e at *
  generalize Nat.gcd m D = g at *
  have l1 := Ry (x := q) (by omega)
  have l2 := Ry (x := e) (by omega)
  simp only [List.length_append, List.length_singleton, List.nil_append]
  refine ⟨⟨by omega, by omega⟩, ⟨by omega, by omega⟩, by omega, ⟨by omega, by omega⟩, ⟨by omega, by omega⟩, by omega, by omega, ⟨by omega, by omega⟩, fun h => ?_, fun h => ⟨by omega, by omega, ⟨by omega, by omega⟩, ⟨by omega, by omega⟩, by omega, ?_⟩⟩
  ·rw [if_pos (by omega), List.append_nil]
  ·rw [if_neg (by omega)]; simp
theorem oD (n : Int) (d : Int) (h1 : -9223372036854775807 ≤ n ∧ n ≤ 9223372036854775807) (h2 : 0 < d ∧ d ≤ 9223372036854775807) : zS Tryz.prog [] 184 [.i n, .i d] (.str (ZQ n d.toNat)) :=
 zV (T := (T0.plus 47 UX).plus 230 rI) (an := .auto) mixed (zY.plus (zY.plus zr PN) Kv) (Eq.mp (by kernel_rfl) (QU n d h1 h2))
theorem Wg : zQ Tryz.prog [] 184 Xu := by
 intro xs ps r h hp
 unfold Xu at h
 split at h
 ·skip
  rename_i n d
  cases h
  obtain ⟨q0, q1, -⟩ := Zx hp
  exact weaken (ys := [.i n, .i d]) ⟨zX _, zX _, trivial⟩ (oD n d q0 q1)
 ·cases h
end Go.Te

namespace Go.Te
open Go Go.Sx Go.Proofs Go.Ar
set_option maxRecDepth 100000
set_option maxHeartbeats 4000000
theorem JW {n d : zh} (hn : Zt n = 0) (hd : Zt d = 0) (hp : 0 < zt d) : ∃ g : Nat, Z0 n d = g ∧ 0 < (g : Int) ∧ Lh n (Lib.itoa g) = true ∧ Lh d (Lib.itoa g) = true ∧ (Lib.itoa g).length ≤ 301 ∧ (zt n / g).natAbs < 10 ^ 300 ∧
  0 < zt d / g ∧ (zt d / g).natAbs < 10 ^ 300 ∧ ZQ (zt n) (zt d).toNat = Lib.itoa (zt n / g) ++ (if zt d / g = 1 then [] else 47 :: Lib.itoa (zt d / g)) := by
 obtain ⟨D, hD⟩ : ∃ D : Nat, zt d = D := ⟨(zt d).toNat, by omega⟩
 have n3 := qC hn
 have d3 := qC hd
 have hg : Z0 n d = Nat.gcd (zt n).natAbs D := by unfold Z0; rw [hD, Int.natAbs_natCast]
 rw [hD] at hp d3
 rw [hg, hD]
 have g0 : 0 < Nat.gcd (zt n).natAbs D := Nat.gcd_pos_of_pos_right _ (by omega)
 have v1 : ((Nat.gcd (zt n).natAbs D : Nat) : Int) ∣ zt n := Int.ofNat_dvd_left.2 (Nat.gcd_dvd_left _ _)
 have v2 : Nat.gcd (zt n).natAbs D ∣ D := Nat.gcd_dvd_right _ _
 have gl : Nat.gcd (zt n).natAbs D ≤ D := Nat.le_of_dvd (by omega) v2
 have q0 : 0 < D / Nat.gcd (zt n).natAbs D := Nat.div_pos gl g0
 have q1 : D / Nat.gcd (zt n).natAbs D ≤ D := Nat.div_le_self _ _
 have q2 : (zt n / (Nat.gcd (zt n).natAbs D : Int)).natAbs ≤ (zt n).natAbs := by
  rw [← Int.tdiv_eq_ediv_of_dvd v1, Int.natAbs_tdiv]; exact Nat.div_le_self _ _
 have eI : Zt (Lib.itoa (Nat.gcd (zt n).natAbs D : Int)) = 0 := by
  rw [W2]
  exact (ZW (k := 300) (by omega) (by omega) (by rw [Int.natAbs_natCast]; rw [Int.natAbs_natCast] at d3; omega)).2
 have ex : ∀ {x : zh}, Zt x = 0 → ((Nat.gcd (zt n).natAbs D : Nat) : Int) ∣ zt x → Lh x (Lib.itoa (Nat.gcd (zt n).natAbs D : Int)) = true := fun {x} h1 h2 => by
  unfold Lh zI
  rw [h1, eI, (Z8 _).2, Int.emod_eq_zero_of_dvd h2]
  simp only [bne_self_eq_false, cond_false, beq_self_eq_true, Bool.and_true, Bool.true_and, zq]
  omega
 refine ⟨_, rfl, by omega, ex hn v1, ex hd (by rw [hD]; exact Int.natCast_dvd_natCast.2 v2), (Z1 eI).2.1, by omega, ?_, ?_, ?_⟩
 ·rw [← Int.natCast_ediv]; omega
 ·rw [← Int.natCast_ediv, Int.natAbs_natCast]; rw [Int.natAbs_natCast] at d3; omega
 ·rw [Int.toNat_natCast, ← Int.natCast_ediv]
  show y6 _ _ = _
  unfold y6
  congr 1
  by_cases h : D / Nat.gcd (zt n).natAbs D = 1
  ·rw [h]; rfl
  ·rw [if_neg (by omega), Zi, show Nat.beq _ 1 = false from Bool.eq_false_iff.2 fun q => h (Nat.eq_of_beq_eq_true q)]; rfl
theorem og (q : Int) : ((((Lib.itoa q).getD 0 0).toNat : Int) = 45 ↔ q < 0) ∧ 0 < (Lib.itoa q).length := by
 by_cases h : q < 0
 ·obtain ⟨m, rfl⟩ : ∃ m : Nat, q = -(m : Int) := ⟨q.natAbs, by omega⟩
  rw [itoa_neg (by omega)]
  exact ⟨⟨fun _ => h, fun _ => rfl⟩, by simp⟩
 ·obtain ⟨m, rfl⟩ : ∃ m : Nat, q = (m : Int) := ⟨q.toNat, by omega⟩
  rw [Zi]
  have := yw m
  refine ⟨⟨fun e => ?_, fun e => absurd e h⟩, this⟩
  have := Z6.1 ((ZX.1 (Yp m)).2.1 _ (xh (s := Lib.decDigits m) (i := 0) this))
  omega
def Ky (n d : zh) : yW := .two .auto (.join Unit (fun _ _ => [(0, .str n), (1, .str d)]) (fun _ _ => []) 0 (fun _ _ => True) .auto .auto)
noncomputable def G5 (G : List (Nat × Obj)) : Tb := ((((wn G).plus 48 X2).plus 184 Xu).plus 49 Uw).plus 231 SC
theorem oR {G : List (Nat × Obj)} (hG : zM G) : zY Tryz.prog (G5 G) :=
 zY.plus (zY.plus (zY.plus (zY.plus zr (zQ.mono V9)) (zQ.mono Wg)) (P2 hG)) (jg hG)
def rF : List AV → Option (List zN × AV)
 | [.str n, .str d] => some ([.p (Zt n = 0), .p (Zt d = 0), .p (0 < zt d)], .tup 2 (zT [.str (ZQ (zt n) (zt d).toNat), .i 0]))
 | _ => none
theorem jV (G : List (Nat × Obj)) (n : List UInt8) (d : List UInt8) (hn : Zt n = 0) (hd : Zt d = 0) (hp : 0 < zt d) :
 let q1 := (DB.db (iZ ≤ iZ ∧ iZ < (lZ n))); let q2 := ((cI (UInt8.toNat (gD n 0 (0 : UInt8)))) == (45 : Int)); let q3 := (DB.db (iZ ≤ iO ∧ iO ≤ (lZ n))); let q5 := (leB (lZ n) (18 : Int)); let q4 := (!zU true q5 || zU true q5); let q6 := (iZ < (cI (zk d)) ∧ (cI (zk d)) ≤ iX); let q7 := (True ∧ bA #[] = ZQ (zt n) (Int.toNat (zt d))); let q8 := (bif zI n d != iZ then [] else Lib.itoa
 (cI (Z0 n d))); let q11 := (zt n / zt q8); let q10 := (Lib.itoa q11); let q9 := (lZ q10); let q14 := (lZ (List.drop 1 q10)); let q13 := (zn (300 : Int) q14); let q12 := (!zU false q13 || zU false q13); let q17 := (zt d / zt q8); let q16 := (Lib.itoa q17); let q15 := (lZ q16); let q18 := (j2 ∧ q7 ∧ kI ∧ (4 : Int) = iZ); let q20 := (ByteArray.data (ByteArray.mk #[(47 : UInt8)])); let q19 := (zZ (Lib.itoa q17 == bA #[(49 :
 UInt8)]) (j2 ∧ (True ∧ Lib.itoa q11 = ZQ (zt n) (Int.toNat (zt d))) ∧ kI ∧ iZ = iZ) (bF (DB.db (lN q10 + 1 ≤ nX)) (bF (DB.db (lN (Lib.itoa q11 ++ Array.toList q20) + lN q16 ≤ nX)) (j2 ∧ (True ∧ Lib.itoa q11 ++ Array.toList q20 ++ Lib.itoa q17 = ZQ (zt n) (Int.toNat (zt d))) ∧ kI ∧ iZ = iZ)))); let q22 := (zn (300 : Int) q9); let q21 := (!zU false q22 || zU false q22); zB
 [AV.str n, AV.str d] → bF (DB.db (iZ ≤ iZ ∧ iZ < (lZ d))) (zZ ((cI (UInt8.toNat (gD d 0 (0 : UInt8)))) == (45 : Int)) (bF (DB.db (iZ ≤ iO ∧ iO ≤ (lZ d))) (bF q1 (zZ q2 (bF q3 (∃ (z : Unit), (True ∧ List.drop 1 n = n ∧ List.drop 1 d = d) ∧ True)) (zZ (!n == bA #[(48 : UInt8)]) (bF (DB.db (1 + lN n ≤ nX)) (∃ (z : Unit), (True ∧ bA #[(45 : UInt8)] ++ n = n ∧
 List.drop 1 d = d) ∧ True)) (∃ (z : Unit), (True ∧ n = n ∧ List.drop 1 d = d) ∧ True))))) (∃ (z : Unit), (True ∧ n = n ∧ d = d) ∧ True)) ∧ ∀ (z : Unit), True → bF q4 (bF q4 (bF (!leB (lZ n) (18 : Int) || zU true q5) (zZ (bif leB (lZ n) (18 : Int) then leB (lZ d) (18 : Int) else false) (bF q1 (zZ q2 (bF q3 (Zw (List.drop 1 n) = true ∧ lN (List.drop 1 n) ≤ 18 ∧ bF (dK (-(cI (zk (List.drop 1 n))))) (Zw d = true ∧ lN d ≤ 18 ∧
 ((-9223372036854775807 : Int) ≤ -(cI (zk (List.drop 1 n))) ∧ -(cI (zk (List.drop 1 n))) ≤ iX) ∧ q6 ∧ j2 ∧ (True ∧ ZQ (-(cI (zk (List.drop 1 n)))) (Int.toNat (cI (zk d))) = ZQ (zt n) (Int.toNat (zt d))) ∧ kI ∧ iZ = iZ))) (Zw n = true ∧ lN n ≤ 18 ∧ Zw d = true ∧ lN d ≤ 18 ∧ ((-9223372036854775807 : Int) ≤ (cI (zk n)) ∧ (cI (zk n)) ≤ iX) ∧ q6 ∧ j2 ∧ (True ∧ ZQ (↑(zk n) :
 Int) (Int.toNat (cI (zk d))) = ZQ (zt n) (Int.toNat (zt d))) ∧ kI ∧ iZ = iZ))) (lN n ≤ 100000000 ∧ lN d ≤ 100000000 ∧ zZ (zI n d != iZ) (j2 ∧ q7 ∧ kI ∧ zI n d = iZ) (lN n ≤ 100000000 ∧ lN q8 ≤ 100000000 ∧ Lh n q8 = true ∧ lN d ≤ 100000000 ∧ lN q8 ≤ 100000000 ∧ Lh d q8 = true ∧ bF (DB.db (iZ ≤ iZ ∧ iZ < q9)) (zZ ((cI (UInt8.toNat (gD q10 0 (0 : UInt8)))) == (45 : Int)) (zZ
 (DB.db (iZ ≤ iO ∧ iO ≤ q9)) (bF q12 (bF q12 (bF (!!zn (300 : Int) q14 || zU false q13) (zZ (bif zn (300 : Int) q14 then true else zn (300 : Int) q15) q18 q19)))) False) (bF q21 (bF q21 (bF (!!zn (300 : Int) q9 || zU false q22) (zZ (bif zn (300 : Int) q9 then true else zn (300 : Int) q15) q18 q19)))))))))) := by
 delta bF dK bA nX cI kI j2 lZ lN gD iZ iO iX
 dsimp only
 intro hb
 simp only [↓ZK, ↓ZT, row_one]
 simp only [sS, dS]
 obtain ⟨a1, a2, a3⟩ := Z1 hn
 obtain ⟨b1, b2, b3⟩ := Z1 hd
 have hE : zI n d = 0 := by unfold zI; rw [hn, hd]; rfl
 have e1 : (zI n d != 0) = false := by rw [hE]; rfl
 obtain ⟨dD, dV⟩ : Zw d = true ∧ zt d = (zk d : Int) := by
  rcases yR b3 with ⟨r, _, _, _, h⟩ | h
  ·omega
  ·exact h
 have d0 := (ZX.1 dD).1
 have dc := Z6.1 ((ZX.1 dD).2.1 _ (xh (s := d) (i := 0) d0))
 simp only [e1, cond_false, (Z8 _).2]
 refine ⟨⟨⟨by omega, by omega⟩, fun h => by omega, fun _ => ⟨(), trivial⟩⟩, fun _ _ => zu.2 ⟨fun c => ?_, fun c => ?_⟩⟩
 ·rw [Bool.and_eq_true, zF, zF] at c
  have bd := yd dD (k := 18) (by omega)
  rw [show 10 ^ 18 = 1000000000000000000 from by decide] at bd
  rcases yR a3 with ⟨r, rfl, h1, h2, h3⟩ | ⟨h1, h2⟩
  ·simp only [List.length_cons] at c
   have br := yd h1 (k := 18) (by omega)
   rw [show 10 ^ 18 = 1000000000000000000 from by decide] at br
   simp only [List.length_cons, List.getD_cons_zero, List.drop_succ_cons, List.drop_zero, h3, dV, Int.toNat_natCast]
   refine ⟨⟨by omega, by omega⟩, fun _ => ⟨⟨by omega, by omega⟩, h1, by omega, by simp only [YZ]; omega, dD, by omega, ⟨by omega, by omega⟩, ⟨by omega, by omega⟩, rfl, trivial⟩, fun h => absurd rfl h⟩
  ·have n0 := (ZX.1 h1).1
   have nc := Z6.1 ((ZX.1 h1).2.1 _ (xh (s := n) (i := 0) n0))
   have bn := yd h1 (k := 18) (by omega)
   rw [show 10 ^ 18 = 1000000000000000000 from by decide] at bn
   refine ⟨⟨by omega, by omega⟩, fun h => by omega, fun _ => ⟨h1, by omega, dD, by omega, ⟨by omega, by omega⟩, ⟨by omega, by omega⟩, rfl, ?_⟩⟩
   rw [h2, dV, Int.toNat_natCast]
 ·obtain ⟨g, g1, g2, g3, g4, g5, g6, g7, g8, g9⟩ := JW hn hd hp
  rw [g1, g9]
  obtain ⟨k1, k2⟩ := og (zt n / g)
  have l1 := Yf (zt n / g)
  have m1 := WV (k := 300) (by omega) g6
  have l2 := Yf (zt d / g)
  have m2 := WV (k := 300) (by omega) g8
  rw [if_neg (by omega)] at l2
  have e49 : (Lib.itoa (zt d / g) == [49]) = decide (zt d / g = 1) := by
   rw [Bool.eq_iff_iff, beq_iff_eq, decide_eq_true_eq, show ([49] : zh) = Lib.itoa 1 from by rw [show (1 : Int) = ((1 : Nat) : Int) from rfl, Zi, zA (by omega)]; rfl]
   exact ⟨Mg, fun h => by rw [h]⟩
  generalize zt d / (g : Int) = D at *
  generalize zt n / (g : Int) = q at *
  have tl : ∀ x : Nat, x ≤ 300 → zZ (zn 300 (x : Int) || zn 300 ((Lib.itoa D).length : Int)) (2 = [AV.junk, AV.junk].length ∧ [] = Lib.itoa q ++ (if D = 1 then [] else 47 :: Lib.itoa D) ∧ (4 : Int) = 0)
    (zZ (Lib.itoa D == [49]) (2 = [AV.junk, AV.junk].length ∧ Lib.itoa q = Lib.itoa q ++ (if D = 1 then [] else 47 :: Lib.itoa D))
     ((Lib.itoa q).length + 1 ≤ 9223372036854775807 ∧ (Lib.itoa q ++ [47]).length + (Lib.itoa D).length ≤ 9223372036854775807 ∧ 2 = [AV.junk, AV.junk].length ∧ Lib.itoa q ++ [47] ++ Lib.itoa D = Lib.itoa q ++ (if D = 1 then [] else 47 :: Lib.itoa D))) := fun x hx => by
   rw [show (zn 300 (x : Int) || zn 300 ((Lib.itoa D).length : Int)) = false from by
    rw [Bool.or_eq_false_iff, Bool.eq_false_iff, Bool.eq_false_iff, Ne, Ne, zq, zq]; omega, uU, e49]
   refine zu.2 ⟨fun c => ?_, fun c => ?_⟩
   ·rw [decide_eq_true_eq] at c
    rw [if_pos c, List.append_nil]; exact ⟨rfl, rfl⟩
   ·rw [decide_eq_false_iff_not] at c
    rw [if_neg c]
    simp only [List.length_append, List.length_singleton, List.append_assoc, List.singleton_append]
    have : (Lib.itoa q).length ≤ 301 := by rw [l1]; split <;> omega
    exact ⟨by omega, by omega, rfl, trivial⟩
  refine ⟨by omega, by omega, fun h => absurd hE h, fun _ => ⟨by omega, by omega, g3, by omega, by omega, g4, ⟨by omega, by omega⟩, fun h => ⟨⟨by omega, by omega⟩, tl _ ?_⟩, fun h => tl _ ?_⟩⟩
  ·rw [List.length_drop, l1, if_pos (k1.1 h)]; omega
  ·rw [l1, if_neg (fun e => h (k1.2 e))]; omega
theorem Ih {G : List (Nat × Obj)} (hG : zM G) (n : List UInt8) (d : List UInt8) (hn : Zt n = 0) (hd : Zt d = 0) (hp : 0 < zt d) : zS Tryz.prog G 185 [.str n, .str d] (.tup 2 (zT [.str (ZQ (zt n) (zt d).toNat), .i 0])) :=
 zV (T := G5 G) (an := Ky n d) mixed (oR hG) (Eq.mp (by kernel_rfl) (jV G n d hn hd hp))
theorem mi {G : List (Nat × Obj)} (hG : zM G) : zQ Tryz.prog G 185 rF := by
 intro xs ps r h hp
 unfold rF at h
 split at h
 ·skip
  rename_i n d
  cases h
  obtain ⟨q0, q1, q2, -⟩ := Zx hp
  exact weaken (ys := [.str n, .str d]) ⟨zX _, zX _, trivial⟩ (Ih hG n d q0 q1 q2)
 ·cases h
theorem Ht {n : Int} (h : 0 ≤ n) : ZQ n 1 = Lib.itoa n := by
 obtain ⟨m, rfl⟩ : ∃ m : Nat, n = m := ⟨n.toNat, by omega⟩
 rw [qf, Int.natAbs_natCast, Nat.gcd_one_right, Nat.div_one, Nat.div_one, if_neg (by omega), if_pos rfl, List.nil_append, List.append_nil]
def Gi (r : AV) : List AV → Option (List zN × AV) := fun _ => some ([.p False], r)
theorem j9 {P : Program} {G : List (Nat × Obj)} {f : FuncId} (r : AV) : zQ P G f (Gi r) := by
 intro xs ps q h hp
 cases h
 exact False.elim (hp (.p False) (by simp))
def G0 : Tb := ((T0.plus 184 Xu).plus 186 (Gi (.str []))).plus 185 (Gi (.tup 2 (zT [.str [], .i 0])))
theorem nr : zY Tryz.prog G0 := zY.plus (zY.plus (zY.plus zr Wg) (j9 _)) (j9 _)
def Sq : List AV → Option (List zN × AV)
 | [.v (.int .i64 n), .v (.int .i64 d)] => some ([.p (0 ≤ n ∧ n < 4611686018427387904), .p (d = 1)], .tup 2 (zT [.str (Lib.itoa n), .i 0]))
 | _ => none
theorem kR (n : Int) (d : Int) (h1 : 0 ≤ n ∧ n < 4611686018427387904) (h2 : d = 1) :
 let q1 := (bif zn (-4611686018427387904 : Int) n then zn n (4611686018427387904 : Int) else false); let q2 := (bif bif zn (-4611686018427387904 : Int) n then zn n (4611686018427387904 : Int) else false then zn iZ d else false); zB [aI n, aI d] → zZ (d == iZ) (j2 ∧ (True ∧ bA #[] = Lib.itoa n) ∧ kI ∧ (12 : Int) = iZ) (bF (!zU true (zn (-4611686018427387904 : Int) n) || zU true (zn (-4611686018427387904 : Int) n)) (bF (!zn
 (-4611686018427387904 : Int) n || zU true (zn (-4611686018427387904 : Int) n)) (bF (!zU true q1 || zU true q1) (bF ((!bif zn (-4611686018427387904 : Int) n then zn n (4611686018427387904 : Int) else false) || zU true q1) (bF (!zU true q2 || zU true q2) (bF ((!bif bif zn (-4611686018427387904 : Int) n then zn n (4611686018427387904 : Int) else false then zn iZ d else false) || zU true q2) (zZ (bif bif bif zn (-4611686018427387904 : Int) n then zn n (4611686018427387904 : Int) else false then zn iZ d else false then zn d
 (4611686018427387904 : Int) else false) (((-9223372036854775807 : Int) ≤ n ∧ n ≤ iX) ∧ (iZ < d ∧ d ≤ iX) ∧ j2 ∧ (True ∧ ZQ n (Int.toNat d) = Lib.itoa n) ∧ kI ∧ iZ = iZ) (False ∧ False ∧ False ∧ j2 ∧ (True ∧ [] = Lib.itoa n) ∧ kI ∧ iZ = iZ)))))))) := by
 delta bF bA kI j2 iZ iX aI
 dsimp only
 intro hb
 subst h2
 simp only [↓ZK, ↓ZT, row_one]
 simp only [sS, dS]
 refine ⟨fun h => absurd h (by decide), fun _ => zu.2 ⟨fun _ => ⟨⟨by omega, by omega⟩, ⟨by omega, by omega⟩, rfl, Ht h1.1⟩, fun c => ?_⟩⟩
 refine absurd ?_ (Bool.eq_false_iff.1 c)
 rw [Bool.and_eq_true, Bool.and_eq_true, Bool.and_eq_true, zq, zq, zq, zq]
 omega
theorem Ii (n : Int) (d : Int) (h1 : 0 ≤ n ∧ n < 4611686018427387904) (h2 : d = 1) : zS Tryz.prog [] 126 [.i n, .i d] (.tup 2 (zT [.str (Lib.itoa n), .i 0])) :=
 zV (T := G0) (an := .auto) mixed nr (Eq.mp (by kernel_rfl) (kR n d h1 h2))
theorem NB : zQ Tryz.prog [] 126 Sq := by
 intro xs ps r h hp
 unfold Sq at h
 split at h
 ·skip
  rename_i n d
  cases h
  obtain ⟨q0, q1, -⟩ := Zx hp
  exact weaken (ys := [.i n, .i d]) ⟨zX _, zX _, trivial⟩ (Ii n d q0 q1)
 ·cases h
end Go.Te
