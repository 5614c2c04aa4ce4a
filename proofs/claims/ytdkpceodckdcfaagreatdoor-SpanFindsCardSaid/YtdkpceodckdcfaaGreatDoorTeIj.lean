/- integer: Add, Sub, Mul, Compare. -/
import Derived.Test.YtdkpceodckdcfaaGreatDoorTeIh
import Derived.Test.YtdkpceodckdcfaaGreatDoorTeJ
set_option linter.unusedSimpArgs false
set_option linter.unusedVariables false
namespace Go.Te
open Go Go.Sx Go.Proofs Go.Ar
set_option maxRecDepth 100000
set_option maxHeartbeats 4000000
theorem v8 {n k : Nat} (h : n < 10 ^ k) : (zw 1000000000 n).length ≤ k := by
 refine yg (b := 1000000000) (by omega) ?_
 have h2 : 10 ^ k ≤ 1000000000 ^ k := Nat.pow_le_pow_left (by omega) _
 exact_mod_cast Nat.lt_of_lt_of_le h h2
theorem Z1 {a : zh} (h : Zt a = 0) : (zt a).natAbs < 10 ^ 301 ∧ a.length ≤ 301 ∧ Zy a = true := by
 obtain ⟨h1, h2⟩ := yS.1 h
 have h3 := Xe a
 have h4 : 10 ^ a.length ≤ 10 ^ 301 := HJ (a := a.length) (b := 301) (by omega)
 exact ⟨Nat.lt_of_lt_of_le (To h1) h4, by omega, h1⟩
theorem xu {a : zh} (h : Zy a = true) : YX (zd a) (zw 1000000000 (zt a).natAbs) = zt a := by
 have hv : zW 1000000000 (zw 1000000000 (zt a).natAbs) = ((zt a).natAbs : Int) := yN (b := 1000000000) (by omega) _
 unfold YX
 rw [hv]
 rcases yR h with ⟨r, rfl, h1, _, h3⟩ | ⟨h1, h3⟩
 ·rw [show zd (45 :: r) = true from rfl, h3]; simp only [cond_true]; omega
 ·have hm : zd a = false := by
   unfold zd
   rw [beq_eq_false_iff_ne]
   intro e
   have h0 := (ZX.1 h1).1
   have := (ZX.1 h1).2.1 _ (xh (s := a) (i := 0) h0)
   rw [e] at this
   cases this
  rw [hm, h3]; simp only [cond_false]; omega
theorem R3 (n : Bool) (l : List Int) : YX (!n) l = - YX n l := by unfold YX; cases n <;> simp
theorem tK (n : Bool) {v : Int} (h : 0 ≤ v) : YX n (zw 1000000000 v.toNat) = bif n then - v else v := by
 have hv : zW 1000000000 (zw 1000000000 v.toNat) = (v.toNat : Int) := yN (b := 1000000000) (by omega) _
 unfold YX
 rw [hv, Int.toNat_of_nonneg h]
theorem yP (n : Nat) : Zv 1000000000 (zw 1000000000 n) ∧ zm (zw 1000000000 n) = zw 1000000000 n := ⟨YO (b := 1000000000) (by omega) n, XU (b := 1000000000) (by omega) n⟩
theorem Yh (f : Bool) (l : List Int) : ZR (AV.agg 2 fun i => [AV.v (Value.bool f), AV.xl false 1 l.length fun i j => AV.v (Value.int IntKind.i64 (l.getD i 0))][i]?.getD AV.junk) = (⟨f, l⟩ : Big) := YL f l
theorem YV (f : Bool) (l : List Int) : ZH Big (AV.agg 2 fun i => [AV.v (Value.bool f), AV.xl false 1 l.length fun i j => AV.v (Value.int IntKind.i64 (l.getD i 0))][i]?.getD AV.junk) = true := y8 f l
theorem xn (f g : Bool) (l : List Int) (Z : Nat → AV) : ZR (AV.agg 2 fun i => if i < 1 then AV.v (Value.bool f) else if i < 2 then zT [AV.v (Value.bool g), AV.xl false 1 l.length fun i j => AV.v (Value.int IntKind.i64 (l.getD i 0))] i else Z i) = (⟨f, l⟩ : Big) := by
 show (⟨f, xy (Zp l)⟩ : Big) = _
 rw [UZ]
theorem YH (f g : Bool) (l : List Int) (Z : Nat → AV) : ZH Big (AV.agg 2 fun i => if i < 1 then AV.v (Value.bool f) else if i < 2 then zT [AV.v (Value.bool g), AV.xl false 1 l.length fun i j => AV.v (Value.int IntKind.i64 (l.getD i 0))] i else Z i) = true := by
 show (za Int (Zp l)) = true
 rw [Vy]
theorem xO (g : Bool) (l : List Int) (Z : Nat → AV) : ZR (AV.agg 2 fun i => if i < 2 then zT [AV.v (Value.bool g), AV.xl false 1 l.length fun i j => AV.v (Value.int IntKind.i64 (l.getD i 0))] i else Z i) = (⟨g, l⟩ : Big) := by
 show (⟨g, xy (Zp l)⟩ : Big) = _
 rw [UZ]
theorem Yg (g : Bool) (l : List Int) (Z : Nat → AV) : ZH Big (AV.agg 2 fun i => if i < 2 then zT [AV.v (Value.bool g), AV.xl false 1 l.length fun i j => AV.v (Value.int IntKind.i64 (l.getD i 0))] i else Z i) = true := by
 show (za Int (Zp l)) = true
 rw [Vy]
theorem vW {f : Int → Int → Int} {a b : zh} (h : zI a b ≠ 0) : y5 f a b = [] ∧ yZ f a b = zI a b := by
 have e : yZ f a b = zI a b := by unfold yZ; rw [bne_iff_ne.2 h]; rfl
 refine ⟨?_, e⟩
 unfold y5
 rw [e, beq_eq_false_iff_ne.2 h]
 rfl
theorem xa {f : Int → Int → Int} {a b : zh} (h : zI a b = 0) : y5 f a b = yq (f (zt a) (zt b)) ∧ yZ f a b = ZZ (f (zt a) (zt b)) := by
 have e : yZ f a b = ZZ (f (zt a) (zt b)) := by unfold yZ; rw [h]; rfl
 refine ⟨?_, e⟩
 unfold y5 yq
 rw [e]
theorem ZW {n : Int} {k : Nat} (h0 : 0 < k) (hk : k ≤ 300) (h : n.natAbs < 10 ^ k) : yq n = Lib.itoa n ∧ ZZ n = 0 := by
 have h1 := WV h0 h
 have e : ZZ n = 0 := by
  unfold ZZ
  rw [show Nat.blt 300 (Vk n) = false from Bool.eq_false_iff.2 fun e => by have := (zC _ _).1 e; omega]
  rfl
 refine ⟨?_, e⟩
 unfold yq
 rw [e]
 rfl
theorem j7 {a : zh} (h : Zy a = true) (hl : leB (a.length : Int) 18 = true) : -1000000000000000000 < zt a ∧ zt a < 1000000000000000000 := by
 have := QR h (k := 18) (by have := (zF _ _).1 hl; omega)
 rw [show (10 : Int) ^ 18 = 1000000000000000000 from by decide] at this
 exact this
theorem Qm {a : zh} (ha : Zt a = 0) {n : Bool} {k : Nat} {w : Int} (hk : YX n (zw 1000000000 k) = w) (hn : k < 10 ^ 301) :
  YX (oY ⟨zd a, zw 1000000000 (zt a).natAbs⟩ ⟨n, zw 1000000000 k⟩) (zw 1000000000 (qK ⟨zd a, zw 1000000000 (zt a).natAbs⟩ ⟨n, zw 1000000000 k⟩).toNat) = zt a + w ∧
  (zw 1000000000 (qK ⟨zd a, zw 1000000000 (zt a).natAbs⟩ ⟨n, zw 1000000000 k⟩).toNat).length ≤ 302 ∧ 0 ≤ qK ⟨zd a, zw 1000000000 (zt a).natAbs⟩ ⟨n, zw 1000000000 k⟩ := by
 obtain ⟨a1, a2, a3⟩ := Z1 ha
 obtain ⟨s1, s2⟩ := mF (x := ⟨zd a, zw 1000000000 (zt a).natAbs⟩) (y := ⟨n, zw 1000000000 k⟩) (yP _).1 (yP _).1 (yP _).2 (yP _).2
 simp only [hk, xu a3] at s2
 have hw : w.natAbs = k := by
  have hv : zW 1000000000 (zw 1000000000 k) = (k : Int) := yN (b := 1000000000) (by omega) _
  unfold YX at hk
  rw [hv] at hk
  cases n <;> simp at hk <;> omega
 rw [tK _ s1, s2]
 refine ⟨rfl, v8 ?_, s1⟩
 generalize qK ⟨zd a, zw 1000000000 (zt a).natAbs⟩ ⟨n, zw 1000000000 k⟩ = v at *
 have : v.toNat ≤ (zt a).natAbs + k := by
  cases hx : oY ⟨zd a, zw 1000000000 (zt a).natAbs⟩ ⟨n, zw 1000000000 k⟩ <;> rw [hx] at s2 <;> simp at s2 <;> omega
 have h3 : 10 ^ 302 = 10 ^ 301 * 10 := P9 301 302 rfl
 generalize 10 ^ 301 = M at *
 omega
theorem P0 : ∀ (s t : Bool) (A B : Int), (bif !(s == t) then -(A * B) else A * B) = (bif s then -A else A) * (bif t then -B else B) := by
 intro s t A B
 cases s <;> cases t <;> simp [Int.neg_mul, Int.mul_neg]
theorem WR (n : Nat) : zW 1000000000 (zw 1000000000 n) = (n : Int) := yN (b := 1000000000) (by omega) _
theorem Lo {a b : zh} (ha : Zy a = true) (hb : Zy b = true) : YX (!(zd a == zd b)) (zw 1000000000 (((zt a).natAbs : Int) * ((zt b).natAbs : Int)).toNat) = zt a * zt b := by
 have h1 := xu ha
 have h2 := xu hb
 unfold YX at h1 h2
 rw [WR] at h1 h2
 rw [tK _ (Int.mul_nonneg (by omega) (by omega)), P0, h1, h2]
def SY : List AV → Option (List zN × AV)
 | [.v (.int .i64 x), .v (.int .i64 y)] => some ([], .i (Xt x y))
 | _ => none
theorem KN (x : Int) (y : Int) :
 let q1 := (kI ∧ iZ = Xt x y); let q2 := (kI ∧ (-1 : Int) = Xt x y); let q3 := (kI ∧ iO = Xt x y); zB [aI x, aI y] → zZ (x != x) (zZ (y != y) q1 q2) (zZ (y != y) q3 (zZ (zn x y) q2 (zZ (zn y x) q3 q1))) := by
 delta kI iZ iO aI
 dsimp only
 intro hb
 simp only [sS, dS]
 unfold Xt
 refine ⟨fun h => absurd rfl h, fun _ => ⟨fun h => absurd rfl h, fun _ => ⟨fun h => ?_, fun h => ⟨fun h2 => ?_, fun h2 => ?_⟩⟩⟩⟩
 ·rw [(zq _ _).2 h]; rfl
 ·rw [show zn x y = false from Bool.eq_false_iff.2 fun e => by have := (zq _ _).1 e; omega, beq_eq_false_iff_ne.2 (by omega)]; rfl
 ·rw [show x = y by omega, show zn y y = false from Bool.eq_false_iff.2 fun e => by have := (zq _ _).1 e; omega, beq_self_eq_true]; rfl
theorem Jm (x : Int) (y : Int) : zS Tryz.prog [] 131 [.i x, .i y] (.i (Xt x y)) :=
 zV (T := T0.body Tryz.prog [(195, .auto)]) (an := .auto) mixed (zY.body mixed zr _) (Eq.mp (by kernel_rfl) (KN x y))
theorem Nb : zQ Tryz.prog [] 131 SY := by
 intro xs ps r h hp
 unfold SY at h
 split at h
 ·skip
  rename_i x y
  cases h
  exact weaken (ys := [.i x, .i y]) ⟨zX _, zX _, trivial⟩ (Jm x y)
 ·cases h
noncomputable def HW (G : List (Nat × Obj)) : Tb := (((((j5 G).plus 146 Rv).plus 147 tv).plus 150 SB).plus 149 px).plus 148 VJ
theorem pO {G : List (Nat × Obj)} (hG : zM G) : zY Tryz.prog (HW G) :=
 zY.plus (zY.plus (zY.plus (zY.plus (zY.plus (xx hG) (zQ.mono Kk)) (zQ.mono Ll)) (zQ.mono KP)) (zQ.mono JN)) (Oq hG)
noncomputable def Iy (G : List (Nat × Obj)) : Tb := ((((HW G).plus 203 U4).plus 232 S8).plus 206 Si).plus 131 SY
theorem Xz {G : List (Nat × Obj)} (hG : zM G) : zY Tryz.prog (Iy G) := zY.plus (zY.plus (zY.plus (zY.plus (pO hG) (zQ.mono No)) (zQ.mono Kg)) (zQ.mono LZ)) (zQ.mono Nb)
def QG : List AV → Option (List zN × AV)
 | [.str a, .str b] => some ([.p (a.length ≤ 4294967280), .p (b.length ≤ 4294967280)], .tup 2 (zT [.str (y5 (· + ·) a b), .i (yZ (· + ·) a b)]))
 | _ => none
theorem kA (G : List (Nat × Obj)) (a : List UInt8) (b : List UInt8) (hla : a.length ≤ 4294967280) (hlb : b.length ≤ 4294967280) :
 let q2 := (bif leB (lZ a) (18 : Int) && leB (lZ b) (18 : Int) then zt a else iZ); let q1 := (q2 + bif leB (lZ a) (18 : Int) && leB (lZ b) (18 : Int) then zt b else iZ); let q4 := (zw 1000000000 (Int.natAbs (zt a))); let q3 := (AV.agg 2 fun i => Option.getD [AV.v (Value.bool (zd a)), xI q4][i]? AV.junk); let q6 := (zw 1000000000 (Int.natAbs (zt b))); let q5 := (AV.agg 2 fun i => Option.getD [AV.v (Value.bool
 (zd b)), xI q6][i]? AV.junk); let q8 := (ZR q3); let q7 := (Big.l q8); let q10 := (ZR q5); let q9 := (Big.l q10); let q12 := (zw 1000000000 (Int.toNat (qK q8 q10))); let q11 := (AV.agg 2 fun i => Option.getD [AV.v (Value.bool (oY q8 q10)), xI q12][i]? AV.junk); let q14 := (ZR q11); let q13 := (Big.l q14); let q15 := (YX (Big.neg q14) q13); zB [AV.str a, AV.str b] → lN a ≤ nM ∧ lN b ≤
 nM ∧ zZ (zI a b != iZ) (j2 ∧ (True ∧ bA #[] = y5 (fun (x1 x2 : Int) => x1 + x2) a b) ∧ kI ∧ zI a b = yZ (fun (x1 x2 : Int) => x1 + x2) a b) (Zy a = true ∧ Zy b = true ∧ (18 : Int) = (18 : Int) ∧ zZ (leB (lZ a) (18 : Int) && leB (lZ b) (18 : Int)) (bF (dK q1) (((iN ≤ q2 + bif leB (lZ a) (18 : Int) && leB (lZ b) (18 : Int) then zt b else iZ) ∧ q1 ≤
 iX) ∧ j2 ∧ (True ∧ Lib.itoa q1 = y5 (fun (x1 x2 : Int) => x1 + x2) a b) ∧ kI ∧ iZ = yZ (fun (x1 x2 : Int) => x1 + x2) a b)) (Zy a = true ∧ lN a ≤ 100000000 ∧ Zy b = true ∧ lN b ≤ 100000000 ∧ bF (ZH Big q3) (bF (ZH Big q5) ((∀ (x : Int), List.Mem x q7 → iZ ≤ x ∧ x < iB) ∧ (∀ (x : Int), List.Mem x q9 → iZ ≤ x ∧ x < iB) ∧ zm q7 = Big.l q8 ∧ zm q9 = Big.l q10 ∧ lN q7 ≤ 1000000000 ∧ lN q9 ≤ 1000000000 ∧ zZ
 (ZH Big q11) ((∀ (x : Int), List.Mem x q13 → iZ ≤ x ∧ x < iB) ∧ zm q13 = Big.l q14 ∧ lN q13 ≤ 100000000 ∧ j2 ∧ (True ∧ yq q15 = y5 (fun (x1 x2 : Int) => x1 + x2) a b) ∧ kI ∧ ZZ q15 = yZ (fun (x1 x2 : Int) => x1 + x2) a b) False)))) := by
 delta bF dK bA xI nM kI j2 lZ lN iZ iX iN iB
 dsimp only
 intro hb
 have e0 : (zp.dflt : Int) = 0 := rfl
 simp only [↓ZK, ↓ZT, row_one]
 simp only [sS, dS, e0, Yh, YV, YL, y8, xn, YH, xO, Yg, Yo]
 refine ⟨by omega, by omega, fun hE => ⟨rfl, (vW hE).1.symm, (vW hE).2.symm⟩, fun hE => ?_⟩
 obtain ⟨hA, hB⟩ := ym hE
 obtain ⟨a1, a2, a3⟩ := Z1 hA
 obtain ⟨b1, b2, b3⟩ := Z1 hB
 rw [(xa hE).1, (xa hE).2]
 refine ⟨a3, b3, zu.2 ⟨fun c => ?_, fun c => ?_⟩⟩
 ·rw [c]
  rw [Bool.and_eq_true] at c
  have x1 := j7 a3 c.1
  have x2 := j7 b3 c.2
  simp only [cond_true]
  obtain ⟨r1, r2⟩ := ZW (n := zt a + zt b) (k := 20) (by omega) (by omega) (by omega)
  exact ⟨⟨by omega, by omega⟩, ⟨by omega, by omega⟩, rfl, r1.symm, r2.symm⟩
 ·obtain ⟨q1, q2, q3⟩ := Qm hA (xu b3) b1
  rw [q1]
  exact ⟨a3, by omega, b3, by omega, (yP _).1, (yP _).1, (yP _).2, (yP _).2, by have := v8 a1; omega, by have := v8 b1; omega, (yP _).1, (yP _).2, by omega, rfl, rfl, rfl⟩
theorem iS {G : List (Nat × Obj)} (hG : zM G) (a : List UInt8) (b : List UInt8) (hla : a.length ≤ 4294967280) (hlb : b.length ≤ 4294967280) : zS Tryz.prog G 100 [.str a, .str b] (.tup 2 (zT [.str (y5 (· + ·) a b), .i (yZ (· + ·) a b)])) :=
 zV (T := Iy G) (an := .auto) mixed (Xz hG) (Eq.mp (by kernel_rfl) (kA G a b hla hlb))
theorem iI {G : List (Nat × Obj)} (hG : zM G) : zQ Tryz.prog G 100 QG := by
 intro xs ps r h hp
 unfold QG at h
 split at h
 ·skip
  rename_i a b
  cases h
  obtain ⟨q0, q1, -⟩ := Zx hp
  exact weaken (ys := [.str a, .str b]) ⟨zX _, zX _, trivial⟩ (iS hG a b q0 q1)
 ·cases h
def QL : List AV → Option (List zN × AV)
 | [.str a, .str b] => some ([.p (a.length ≤ 4294967280), .p (b.length ≤ 4294967280)], .tup 2 (zT [.str (y5 (· - ·) a b), .i (yZ (· - ·) a b)]))
 | _ => none
theorem KU (G : List (Nat × Obj)) (a : List UInt8) (b : List UInt8) (hla : a.length ≤ 4294967280) (hlb : b.length ≤ 4294967280) :
 let q2 := (bif leB (lZ a) (18 : Int) && leB (lZ b) (18 : Int) then zt a else iZ); let q1 := (q2 - bif leB (lZ a) (18 : Int) && leB (lZ b) (18 : Int) then zt b else iZ); let q4 := (zw 1000000000 (Int.natAbs (zt a))); let q3 := (AV.agg 2 fun i => Option.getD [AV.v (Value.bool (zd a)), xI q4][i]? AV.junk); let q6 := (zw 1000000000 (Int.natAbs (zt b))); let q7 := (Value.agg #[Value.bool false, Value.slice (xf Addr)
 0 0]); let q5 := (AV.agg 2 fun (i : Nat) => if 0 ≤ 0 + i ∧ 0 + i < 1 then AV.v (Value.bool !zd b) else if 0 ≤ 0 + i ∧ 0 + i < 2 then zT [AV.v (Value.bool (zd b)), xI q6] (0 + i - 0) else Zf q7 (0 + i)); let q9 := (ZR q3); let q8 := (Big.l q9); let q11 := (ZR q5); let q10 := (Big.l q11); let q12 := (AV.agg 2 fun i => let q13 := (ZR (AV.agg 2 fun (i : Nat) => if 0 ≤ 0 + i ∧ 0 + i < 1 then AV.v (Value.bool !zd b) else if 0 ≤ 0 + i ∧ 0 + i < 2 then zT [AV.v (Value.bool (zd b)), AV.xl false 1
 (lN q6) fun i j => aI (gD q6 i zp.dflt)] (0 + i - 0) else Zf q7 (0 + i))); Option.getD [AV.v (Value.bool (oY q9 q13)), AV.xl false 1 (lN (zw 1000000000 (Int.toNat (qK q9 q13)))) fun i j => AV.v (Value.int .i64 (gD (zw 1000000000 (Int.toNat (qK q9 (ZR (AV.agg 2 fun (i : Nat) => if 0 ≤ 0 + i ∧ 0 + i < 1 then AV.v (Value.bool !zd b) else if 0 ≤ 0 + i ∧ 0 + i < 2 then zT [AV.v (Value.bool (zd b)), xI q6] (0 + i - 0) else Zf q7 (0 + i)))))) i
 zp.dflt))][i]? AV.junk); let q15 := (ZR q12); let q14 := (Big.l q15); let q16 := (YX (Big.neg q15) q14); zB [AV.str a, AV.str b] → lN a ≤ nM ∧ lN b ≤ nM ∧ zZ (zI a b != iZ) (j2 ∧ (True ∧ bA #[] = y5 (fun (x1 x2 : Int) => x1 - x2) a b) ∧ kI ∧ zI a b = yZ (fun (x1 x2 : Int) => x1 - x2) a b) (Zy a = true ∧ Zy b = true ∧ (18 : Int) = (18 : Int) ∧ zZ (leB (lZ a) (18 : Int) && leB (lZ b) (18 : Int)) (zZ
 (dK q1) (((iN ≤ q2 - bif leB (lZ a) (18 : Int) && leB (lZ b) (18 : Int) then zt b else iZ) ∧ q1 ≤ iX) ∧ j2 ∧ (True ∧ Lib.itoa q1 = y5 (fun (x1 x2 : Int) => x1 - x2) a b) ∧ kI ∧ iZ = yZ (fun (x1 x2 : Int) => x1 - x2) a b) False) (Zy b = true ∧ lN b ≤ 100000000 ∧ Zy a = true ∧ lN a ≤ 100000000 ∧ bF (ZH Big q3) (bF (ZH Big q5) ((∀ (x : Int), List.Mem x q8 → iZ ≤ x ∧ x < iB) ∧
 (∀ (x : Int), List.Mem x q10 → iZ ≤ x ∧ x < iB) ∧ zm q8 = Big.l q9 ∧ zm q10 = Big.l q11 ∧ lN q8 ≤ 1000000000 ∧ lN q10 ≤ 1000000000 ∧ bF (ZH Big q12) ((∀ (x : Int), List.Mem x q14 → iZ ≤ x ∧ x < iB) ∧ zm q14 = Big.l q15 ∧ lN q14 ≤ 100000000 ∧ j2 ∧ (True ∧ yq q16 = y5 (fun (x1 x2 : Int) => x1 - x2) a b) ∧ kI ∧ ZZ q16 = yZ (fun (x1 x2 : Int) => x1 - x2) a b))))) := by
 delta bF dK bA xI nM kI j2 lZ lN gD iZ iX iN iB aI
 dsimp only
 intro hb
 have e0 : (zp.dflt : Int) = 0 := rfl
 simp only [↓ZK, ↓ZT, row_one]
 simp only [sS, dS, e0, Yh, YV, YL, y8, xn, YH, xO, Yg, Yo]
 refine ⟨by omega, by omega, fun hE => ⟨rfl, (vW hE).1.symm, (vW hE).2.symm⟩, fun hE => ?_⟩
 obtain ⟨hA, hB⟩ := ym hE
 obtain ⟨a1, a2, a3⟩ := Z1 hA
 obtain ⟨b1, b2, b3⟩ := Z1 hB
 rw [(xa hE).1, (xa hE).2]
 refine ⟨a3, b3, zu.2 ⟨fun c => ?_, fun c => ?_⟩⟩
 ·rw [c]
  rw [Bool.and_eq_true] at c
  have x1 := j7 a3 c.1
  have x2 := j7 b3 c.2
  simp only [cond_true]
  obtain ⟨r1, r2⟩ := ZW (n := zt a - zt b) (k := 20) (by omega) (by omega) (by omega)
  exact ⟨⟨by omega, by omega⟩, ⟨by omega, by omega⟩, rfl, r1.symm, r2.symm⟩
 ·have hs : YX (!zd b) (zw 1000000000 (zt b).natAbs) = - zt b := by rw [R3, xu b3]
  obtain ⟨q1, q2, q3⟩ := Qm hA hs b1
  rw [q1]
  exact ⟨b3, by omega, a3, by omega, (yP _).1, (yP _).1, (yP _).2, (yP _).2, by have := v8 a1; omega, by have := v8 b1; omega, (yP _).1, (yP _).2, by omega, rfl, rfl, rfl⟩
theorem il {G : List (Nat × Obj)} (hG : zM G) (a : List UInt8) (b : List UInt8) (hla : a.length ≤ 4294967280) (hlb : b.length ≤ 4294967280) : zS Tryz.prog G 142 [.str a, .str b] (.tup 2 (zT [.str (y5 (· - ·) a b), .i (yZ (· - ·) a b)])) :=
 zV (T := Iy G) (an := .auto) mixed (Xz hG) (Eq.mp (by kernel_rfl) (KU G a b hla hlb))
theorem iL {G : List (Nat × Obj)} (hG : zM G) : zQ Tryz.prog G 142 QL := by
 intro xs ps r h hp
 unfold QL at h
 split at h
 ·skip
  rename_i a b
  cases h
  obtain ⟨q0, q1, -⟩ := Zx hp
  exact weaken (ys := [.str a, .str b]) ⟨zX _, zX _, trivial⟩ (il hG a b q0 q1)
 ·cases h
def tI : List AV → Option (List zN × AV)
 | [.str a, .str b] => some ([.p (a.length ≤ 4294967280), .p (b.length ≤ 4294967280)], .tup 2 (zT [.str (y5 (· * ·) a b), .i (yZ (· * ·) a b)]))
 | _ => none
theorem Kz (G : List (Nat × Obj)) (a : List UInt8) (b : List UInt8) (hla : a.length ≤ 4294967280) (hlb : b.length ≤ 4294967280) :
 let q1 := ((lZ a) + (lZ b)); let q3 := (bif leB (lZ a) (18 : Int) && leB (lZ b) (18 : Int) then zt a else iZ); let q2 := (q3 * bif leB (lZ a) (18 : Int) && leB (lZ b) (18 : Int) then zt b else iZ); let q6 := (zw 1000000000 (Int.natAbs (zt a))); let q5 := (xI q6); let q8 := (zw 1000000000 (Int.natAbs (zt b))); let q7 := (AV.xl false 1 (lN q8) fun i j => AV.v (Value.int
 .i64 (gD q8 i zp.dflt))); let q9 := (zv q5); let q10 := (zv q7); let q12 := (zw 1000000000 (Int.toNat (zW iB q9 * zW iB q10))); let q11 := (AV.agg 2 (zT [AV.v (Value.bool !zd a == zd b), xI q12])); let q14 := (ZR q11); let q13 := (Big.l q14); let q15 := (YX (Big.neg q14) q13); let q4 := (Zy a = true ∧ lN a ≤ 100000000 ∧ Zy b = true ∧ lN b ≤ 100000000 ∧ bF (za Int q5) (bF (za Int q7) ((∀ (x : Int), List.Mem x q9 →
 iZ ≤ x ∧ x < iB) ∧ (∀ (x : Int), List.Mem x q10 → iZ ≤ x ∧ x < iB) ∧ lN q9 ≤ 1000000000 ∧ lN q10 ≤ 1000000000 ∧ bF (ZH Big q11) ((∀ (x : Int), List.Mem x q13 → iZ ≤ x ∧ x < iB) ∧ zm q13 = Big.l q14 ∧ lN q13 ≤ 100000000 ∧ j2 ∧ (True ∧ yq q15 = y5 (fun (x1 x2 : Int) => x1 * x2) a b) ∧ kI ∧ ZZ q15 = yZ (fun (x1 x2 : Int) => x1 * x2) a b)))); zB [AV.str a, AV.str b] → lN a ≤ nM ∧ lN b ≤ nM
 ∧ zZ (zI a b != iZ) (j2 ∧ (True ∧ bA #[] = y5 (fun (x1 x2 : Int) => x1 * x2) a b) ∧ kI ∧ zI a b = yZ (fun (x1 x2 : Int) => x1 * x2) a b) (bF (dK q1) (zZ (leB q1 (18 : Int)) (Zy a = true ∧ Zy b = true ∧ (18 : Int) = (18 : Int) ∧ zZ (leB (lZ a) (18 : Int) && leB (lZ b) (18 : Int)) (bF (dK q2) (((iN ≤ q3 * bif leB (lZ a) (18 : Int) && leB (lZ b)
 (18 : Int) then zt b else iZ) ∧ q2 ≤ iX) ∧ j2 ∧ (True ∧ Lib.itoa q2 = y5 (fun (x1 x2 : Int) => x1 * x2) a b) ∧ kI ∧ iZ = yZ (fun (x1 x2 : Int) => x1 * x2) a b)) q4) q4)) := by
 delta bF dK bA xI nM kI j2 lZ lN gD iZ iX iN iB
 dsimp only
 intro hb
 have e0 : (zp.dflt : Int) = 0 := rfl
 simp only [↓ZK, ↓ZT, row_one]
 simp only [sS, dS, e0, Yh, YV, YL, y8, xn, YH, xO, Yg, Yo]
 simp only [WR]
 refine ⟨by omega, by omega, fun hE => ⟨rfl, (vW hE).1.symm, (vW hE).2.symm⟩, fun hE => ?_⟩
 obtain ⟨hA, hB⟩ := ym hE
 obtain ⟨a1, a2, a3⟩ := Z1 hA
 obtain ⟨b1, b2, b3⟩ := Z1 hB
 rw [(xa hE).1, (xa hE).2, Lo a3 b3]
 have hl : (zw 1000000000 (((zt a).natAbs : Int) * ((zt b).natAbs : Int)).toNat).length ≤ 602 := by
  refine v8 ?_
  rw [show (((zt a).natAbs : Int) * ((zt b).natAbs : Int)).toNat = (zt a).natAbs * (zt b).natAbs from by rw [← Int.natCast_mul]; rfl, show 10 ^ 602 = 10 ^ 301 * 10 ^ 301 from mC 301 602 rfl]
  have hm := Nat.mul_lt_mul'' a1 b1
  exact hm
 have la := v8 a1
 have lb := v8 b1
 refine ⟨⟨by omega, by omega⟩, fun h18 => ⟨a3, b3, zu.2 ⟨fun c => ?_, fun c => ?_⟩⟩, fun h18 => ?_⟩
 ·rw [c]
  rw [Bool.and_eq_true] at c
  simp only [cond_true]
  have hm : (zt a * zt b).natAbs < 10 ^ 18 := by
   rw [Int.natAbs_mul]
   have h1 := Nat.mul_lt_mul'' (To a3) (To b3)
   rw [← Nat.pow_add] at h1
   exact Nat.lt_of_lt_of_le h1 (Nat.pow_le_pow_right (by omega) (by omega))
  obtain ⟨r1, r2⟩ := ZW (n := zt a * zt b) (k := 18) (by omega) (by omega) hm
  rw [show 10 ^ 18 = 1000000000000000000 from by decide] at hm
  exact ⟨⟨by omega, by omega⟩, ⟨by omega, by omega⟩, rfl, r1.symm, r2.symm⟩
 ·exact ⟨a3, by omega, b3, by omega, (yP _).1, (yP _).1, by omega, by omega, (yP _).1, (yP _).2, by omega, rfl, rfl, rfl⟩
 ·exact ⟨a3, by omega, b3, by omega, (yP _).1, (yP _).1, by omega, by omega, (yP _).1, (yP _).2, by omega, rfl, rfl, rfl⟩
theorem IY {G : List (Nat × Obj)} (hG : zM G) (a : List UInt8) (b : List UInt8) (hla : a.length ≤ 4294967280) (hlb : b.length ≤ 4294967280) : zS Tryz.prog G 145 [.str a, .str b] (.tup 2 (zT [.str (y5 (· * ·) a b), .i (yZ (· * ·) a b)])) :=
 zV (T := Iy G) (an := .auto) mixed (Xz hG) (Eq.mp (by kernel_rfl) (Kz G a b hla hlb))
theorem pD {G : List (Nat × Obj)} (hG : zM G) : zQ Tryz.prog G 145 tI := by
 intro xs ps r h hp
 unfold tI at h
 split at h
 ·skip
  rename_i a b
  cases h
  obtain ⟨q0, q1, -⟩ := Zx hp
  exact weaken (ys := [.str a, .str b]) ⟨zX _, zX _, trivial⟩ (IY hG a b q0 q1)
 ·cases h
def QB : List AV → Option (List zN × AV)
 | [.str a, .str b] => some ([.p (a.length ≤ 4294967280), .p (b.length ≤ 4294967280)], .tup 2 (zT [.i (Xl a b), .i (zI a b)]))
 | _ => none
theorem kN (G : List (Nat × Obj)) (a : List UInt8) (b : List UInt8) (hla : a.length ≤ 4294967280) (hlb : b.length ≤ 4294967280) :
 let q1 := (True ∧ kI ∧ iZ = Xl a b); let q3 := (zw 1000000000 (Int.natAbs (zt a))); let q4 := (Value.agg #[Value.bool false, Value.slice (xf Addr) 0 0]); let q2 := (AV.agg 2 fun (i : Nat) => if 0 ≤ 0 + i ∧ 0 + i < 2 then zT [AV.v (Value.bool (zd a)), xI q3] (0 + i - 0) else Zf q4 (0 + i)); let q6 := (zw 1000000000 (Int.natAbs (zt b))); let q5 := (AV.agg 2 fun (i : Nat) => if 0 ≤ 0 + i ∧ 0 + i < 1 then AV.v (Value.bool !zd b) else if 0 ≤ 0 + i ∧ 0 + i < 2 then zT
 [AV.v (Value.bool (zd b)), xI q6] (0 + i - 0) else Zf q4 (0 + i)); let q8 := (ZR q2); let q7 := (Big.l q8); let q10 := (ZR q5); let q9 := (Big.l q10); zB [AV.str a, AV.str b] → lN a ≤ nM ∧ lN b ≤ nM ∧ zZ (zI a b != iZ) (j2 ∧ q1 ∧ kI ∧ zI a b = zI a b) (Zy a = true ∧ Zy b = true ∧ (18 : Int) = (18 : Int) ∧ zZ (leB (lZ a) (18 : Int) && leB (lZ b) (18 : Int)) (2
 = lN [AV.junk, AV.junk] ∧ (True ∧ kI ∧ Xt (bif leB (lZ a) (18 : Int) && leB (lZ b) (18 : Int) then zt a else iZ) (bif leB (lZ a) (18 : Int) && leB (lZ b) (18 : Int) then zt b else iZ) = Xl a b) ∧ kI ∧ iZ = zI a b) (Zy a = true ∧ lN a ≤ 100000000 ∧ Zy b = true ∧ lN b ≤ 100000000 ∧ bF (ZH Big q2) (bF (ZH Big q5) ((∀ (x : Int), List.Mem x q7 → iZ ≤ x ∧ x < iB) ∧ (∀ (x : Int), List.Mem x q9 → (0 :
 Int) ≤ x ∧ x < iB) ∧ zm q7 = Big.l q8 ∧ zm q9 = Big.l q10 ∧ lN q7 ≤ 1000000000 ∧ lN q9 ≤ 1000000000 ∧ zZ ((lZ (zw 1000000000 (Int.toNat (qK q8 q10)))) == iZ) (j2 ∧ q1 ∧ kI ∧ iZ = zI a b) (zZ (oY q8 q10) (j2 ∧ (True ∧ kI ∧ (-1 : Int) = Xl a b) ∧ kI ∧ iZ = zI a b) (j2 ∧ (True ∧ kI ∧ iO = Xl a b) ∧ kI ∧ iZ =
 zI a b)))))) := by
 delta bF xI nM kI j2 lZ lN iZ iO iB
 dsimp only
 intro hb
 have e0 : (zp.dflt : Int) = 0 := rfl
 simp only [↓ZK, ↓ZT, row_one]
 simp only [sS, dS, e0, Yh, YV, YL, y8, xn, YH, xO, Yg, Yo]
 have hV : zI a b = 0 → Xl a b = Xt (zt a) (zt b) := fun h => by unfold Xl; rw [h]; rfl
 refine ⟨by omega, by omega, fun hE => ⟨rfl, ?_⟩, fun hE => ?_⟩
 ·unfold Xl; rw [bne_iff_ne.2 hE]; rfl
 obtain ⟨hA, hB⟩ := ym hE
 obtain ⟨a1, a2, a3⟩ := Z1 hA
 obtain ⟨b1, b2, b3⟩ := Z1 hB
 rw [hV hE]
 refine ⟨a3, b3, zu.2 ⟨fun c => ?_, fun c => ?_⟩⟩
 ·rw [c]
  exact ⟨rfl, rfl, hE.symm⟩
 ·have hs : YX (!zd b) (zw 1000000000 (zt b).natAbs) = - zt b := by rw [R3, xu b3]
  obtain ⟨q1, q2, q3⟩ := Qm hA hs b1
  have la := v8 a1
  have lb := v8 b1
  rw [tK _ q3] at q1
  refine ⟨a3, by omega, b3, by omega, (yP _).1, (yP _).1, (yP _).2, (yP _).2, by omega, by omega, fun h0 => ?_, fun h0 => zu.2 ⟨fun hn => ?_, fun hn => ?_⟩⟩
  all_goals
   generalize qK ⟨zd a, zw 1000000000 (zt a).natAbs⟩ ⟨!zd b, zw 1000000000 (zt b).natAbs⟩ = v at *
   generalize oY ⟨zd a, zw 1000000000 (zt a).natAbs⟩ ⟨!zd b, zw 1000000000 (zt b).natAbs⟩ = n at *
  ·have h1 := yK (b := 1000000000) (n := v.toNat) (by omega) (by omega)
   have : zt a = zt b := by cases n <;> simp at q1 <;> omega
   unfold Xt
   rw [this, show zn (zt b) (zt b) = false from Bool.eq_false_iff.2 fun e => by have := (zq _ _).1 e; omega, beq_self_eq_true]
   exact ⟨rfl, rfl, hE.symm⟩
  all_goals
   have h1 : v.toNat ≠ 0 := fun e => h0 (by rw [e, Zj]; rfl)
   rw [hn] at q1
   unfold Xt
  ·rw [cond_true] at q1
   rw [(zq _ _).2 (show zt a < zt b by omega)]
   exact ⟨rfl, rfl, hE.symm⟩
  ·rw [cond_false] at q1
   rw [show zn (zt a) (zt b) = false from Bool.eq_false_iff.2 fun e => by have := (zq _ _).1 e; omega, beq_eq_false_iff_ne.2 (show zt a ≠ zt b by omega)]
   exact ⟨rfl, rfl, hE.symm⟩
theorem Jr {G : List (Nat × Obj)} (hG : zM G) (a : List UInt8) (b : List UInt8) (hla : a.length ≤ 4294967280) (hlb : b.length ≤ 4294967280) : zS Tryz.prog G 134 [.str a, .str b] (.tup 2 (zT [.i (Xl a b), .i (zI a b)])) :=
 zV (T := Iy G) (an := .auto) mixed (Xz hG) (Eq.mp (by kernel_rfl) (kN G a b hla hlb))
theorem IB {G : List (Nat × Obj)} (hG : zM G) : zQ Tryz.prog G 134 QB := by
 intro xs ps r h hp
 unfold QB at h
 split at h
 ·skip
  rename_i a b
  cases h
  obtain ⟨q0, q1, -⟩ := Zx hp
  exact weaken (ys := [.str a, .str b]) ⟨zX _, zX _, trivial⟩ (Jr hG a b q0 q1)
 ·cases h
end Go.Te

namespace Go.Te
open Go Go.Sx Go.Proofs Go.Ar
set_option maxRecDepth 100000
set_option maxHeartbeats 4000000
theorem SI {a b q r : Int} (h : r + b * q = a) (hr : (0 < b ∧ 0 ≤ r ∧ r < b) ∨ (b < 0 ∧ b < r ∧ r ≤ 0)) : Int.fdiv a b = q ∧ Int.fmod a b = r := by
 rcases hr with ⟨h0, h1, h2⟩ | ⟨h0, h1, h2⟩
 ·rw [Int.fdiv_eq_ediv_of_nonneg _ (by omega), Int.fmod_eq_emod_of_nonneg _ (by omega)]
  exact (Int.ediv_emod_unique h0).2 ⟨h, h1, h2⟩
 ·have h3 : (-a) / (-b) = q ∧ (-a) % (-b) = -r := (Int.ediv_emod_unique (by omega)).2 ⟨by rw [Int.neg_mul]; omega, by omega, by omega⟩
  rw [← Int.neg_fdiv_neg, Int.fdiv_eq_ediv_of_nonneg _ (by omega)]
  refine ⟨h3.1, ?_⟩
  have h4 := Int.neg_fmod_neg a b
  rw [Int.fmod_eq_emod_of_nonneg _ (by omega), h3.2] at h4
  omega
theorem md {a b : Int} (hb : b ≠ 0) :
  ((a.tmod b != 0 && !(zn (a.tmod b) 0 == zn b 0)) = true → Int.fdiv a b = a.tdiv b - 1 ∧ Int.fmod a b = a.tmod b + b) ∧
  ((a.tmod b != 0 && !(zn (a.tmod b) 0 == zn b 0)) = false → Int.fdiv a b = a.tdiv b ∧ Int.fmod a b = a.tmod b) ∧ (a.tmod b).natAbs < b.natAbs ∧ (a.tdiv b).natAbs ≤ a.natAbs := by
 have e := Int.mul_tdiv_add_tmod a b
 have m : (a.tmod b).natAbs < b.natAbs := by rw [Int.natAbs_tmod]; exact Nat.mod_lt _ (by omega)
 refine ⟨fun c => SI ?_ ?_, fun c => SI (by omega) ?_, m, Int.natAbs_tdiv_le_natAbs a b⟩
 ·rw [Int.mul_sub, Int.mul_one]; omega
 all_goals
  generalize a.tmod b = r at *
  rcases Int.lt_or_le b 0 with h1 | h1 <;> rcases Int.lt_or_le r 0 with h2 | h2
  ·rw [(zq _ _).2 h1, (zq _ _).2 h2] at c
   simp at c <;> omega
  ·rw [(zq _ _).2 h1, show zn r 0 = false from Bool.eq_false_iff.2 fun e => by have := (zq _ _).1 e; omega] at c
   simp at c <;> omega
  ·rw [(zq _ _).2 h2, show zn b 0 = false from Bool.eq_false_iff.2 fun e => by have := (zq _ _).1 e; omega] at c
   simp at c <;> omega
  ·rw [show zn b 0 = false from Bool.eq_false_iff.2 fun e => by have := (zq _ _).1 e; omega, show zn r 0 = false from Bool.eq_false_iff.2 fun e => by have := (zq _ _).1 e; omega] at c
   simp at c <;> omega
theorem NN (m t : Bool) {A B q r : Int} (hB : 0 < B) (h : r + B * q = bif !(m == t) then -A else A) (h0 : 0 ≤ r) (h1 : r < B) :
  Int.fdiv (bif m then -A else A) (bif t then -B else B) = q ∧ Int.fmod (bif m then -A else A) (bif t then -B else B) = bif t then -r else r := by
 cases t with
 | false =>
  refine SI ?_ (.inl ⟨hB, h0, h1⟩)
  cases m <;> simpa using h
 | true =>
  refine SI ?_ (.inr ⟨by simp; omega, by simp; omega, by simp; omega⟩)
  cases m <;> simp [Int.neg_mul] at h ⊢ <;> omega
theorem vF (n : Bool) (k : Nat) : YX n (zw 1000000000 k) = bif n then -(k : Int) else k := by unfold YX; rw [WR]
theorem m7 {a b : zh} (h : XA a b ≠ 0) : Yi a b = [] ∧ U5 a b = [] := by
 unfold Yi U5
 rw [beq_eq_false_iff_ne.2 h]
 exact ⟨rfl, rfl⟩
theorem M2 {a b : zh} (h : XA a b = 0) : Yi a b = Lib.itoa (Int.fdiv (zt a) (zt b)) ∧ U5 a b = Lib.itoa (Int.fmod (zt a) (zt b)) := by
 unfold Yi U5
 rw [h]
 exact ⟨rfl, rfl⟩
theorem Ur {a : zh} (h : Zt a = 0) : (zt a).natAbs < 10 ^ 300 := by
 obtain ⟨h1, h2⟩ := yS.1 h
 rw [wj h1] at h2
 exact (Z7 (k := 300) (u := (zt a).natAbs) (by omega)).1 h2
theorem JX {b : zh} (h : Zy b = true) (h0 : b ≠ [48]) : zt b ≠ 0 := fun e => h0 (by
 rw [← XV h, e]
 have : Lib.itoa ((0 : Nat) : Int) = [48] := by rw [Go.Ar.Zi, zA (by omega)]; rfl
 exact this)
theorem UA {a : zh} (h : Zy a = true) : (bif zd a then -((zt a).natAbs : Int) else ((zt a).natAbs : Int)) = zt a := by
 have := xu h
 rw [vF] at this
 exact this
theorem jB (l : List Int) : ZR (AV.agg 2 (zT [AV.v ((Value.agg #[Value.bool false, Value.slice none 0 0]).cells.getD 0 undef), AV.xl false 1 l.length fun i j => AV.v (Value.int IntKind.i64 (l.getD i 0))])) = (⟨false, l⟩ : Big) := YL false l
theorem mI (l : List Int) : ZH Big (AV.agg 2 (zT [AV.v ((Value.agg #[Value.bool false, Value.slice none 0 0]).cells.getD 0 undef), AV.xl false 1 l.length fun i j => AV.v (Value.int IntKind.i64 (l.getD i 0))])) = true := y8 false l
def pC : List AV → Option (List zN × AV)
 | [.str a, .str b] => some ([.p (a.length ≤ 4294967280), .p (b.length ≤ 4294967280)], .tup 3 (zT [.str (Yi a b), .str (U5 a b), .i (XA a b)]))
 | _ => none
theorem KY (G : List (Nat × Obj)) (a : List UInt8) (b : List UInt8) (hla : a.length ≤ 4294967280) (hlb : b.length ≤ 4294967280) :
 let q1 := ((True ∧ bA #[] = Yi a b) ∧ bA #[] = U5 a b); let q3 := (bif leB (lZ a) (18 : Int) && leB (lZ b) (18 : Int) then zt b else iZ); let q2 := (DB.db (q3 ≠ iZ)); let q5 := (bif leB (lZ a) (18 : Int) && leB (lZ b) (18 : Int) then zt a else iZ); let q4 := (Int.tdiv q5 q3); let q7 := (Int.tmod q5 q3 != iZ); let q6 := (!zU true q7 || zU true q7); let q8 := (Int.tmod q5 q3); let q9 := (Int.tdiv q5 q3 -
 iO); let q10 := (Int.tmod q5 q3 + bif leB (lZ a) (18 : Int) && leB (lZ b) (18 : Int) then zt b else iZ); let q12 := (zw 1000000000 (Int.natAbs (zt a))); let q11 := (xI q12); let q15 := (zw 1000000000 (Int.natAbs (zt b))); let q14 := (xI q15); let q13 := (za Int q14); let q16 := (zv q11); let q18 := (zv q14); let q17 := (∀ (x : Int), List.Mem x q18 → (0 :
 Int) ≤ x ∧ x < iB); let q19 := (!zU true !zd a == zd b || zU true !zd a == zd b); let q22 := (zW iB q16); let q23 := (zW iB q18); let q21 := (zw 1000000000 (Int.toNat q22 % Int.toNat q23)); let q20 := (lN q21); let q26 := (zw 1000000000 (Int.toNat q22 / Int.toNat q23)); let q25 := (lN q26); let q24 := (AV.xl false 1 q25 fun i j => aI (gD q26 i zp.dflt)); let q27 := (zv q24); let q28 := (zv (AV.xl true 1 1 (Sx.rowAt [fun (x : Nat) => aI iO]))); let
 q29 := (AV.xl false 1 q20 fun i j => aI (gD q21 i zp.dflt)); let q30 := (zv q29); let q32 := (zw 1000000000 (Int.toNat (zW iB q27 + zW iB q28))); let q31 := (AV.agg 2 (zT [AV.v (Value.bool !zd a == zd b), xI q32])); let q35 := (ZR q31); let q34 := (Big.l q35); let q37 := (zw 1000000000 (Int.toNat (zW iB q18 - zW iB q30))); let q36 := (AV.agg 2 (zT [AV.v (Value.bool (zd b)), AV.xl false 1
 (lN q37) fun i j => aI (gD q37 i zp.dflt)])); let q39 := (ZR q36); let q38 := (Big.l q39); let q41 := (YX (Big.neg q35) q34); let q40 := (ZZ q41 != iZ); let q42 := (YX (Big.neg q39) q38); let q43 := (3 = lN [AV.junk, AV.junk, AV.junk] ∧ q1 ∧ kI ∧ (4 : Int) = XA a b); let q44 := (AV.agg 2 (zT [AV.v (Value.bool !zd a == zd b), AV.xl false 1 q25 fun i j => aI (gD q26 i zp.dflt)])); let q46 := (ZR q44); let q45 := (Big.l q46); let q47 := (AV.agg 2 (zT [AV.v (Value.bool (zd b)),
 AV.xl false 1 q20 fun i j => aI (gD q21 i zp.dflt)])); let q49 := (ZR q47); let q48 := (Big.l q49); let q51 := (YX (Big.neg q46) q45); let q50 := (ZZ q51 != iZ); let q52 := (YX (Big.neg q49) q48); zB [AV.str a, AV.str b] → lN a ≤ nM ∧ lN b ≤ nM ∧ zZ (zI a b != iZ) (3 = lN [AV.junk, AV.junk, AV.junk] ∧ q1 ∧ kI ∧ zI a b = XA a b) (zZ (b == bA #[(48 : UInt8)]) (3 = lN [AV.junk, AV.junk, AV.junk] ∧ q1 ∧ kI ∧
 (12 : Int) = XA a b) (Zy a = true ∧ Zy b = true ∧ (18 : Int) = (18 : Int) ∧ zZ (leB (lZ a) (18 : Int) && leB (lZ b) (18 : Int)) (bF q2 (bF (dK q4) (bF q2 (bF q6 (bF q6 (bF q6 (bF q6 (bF (!Int.tmod q5 q3 != iZ || zU true q7) (zZ (bif Int.tmod q5 q3 != iZ then !zn q8 iZ == zn q3 iZ else false) (bF (dK q9) (bF (dK q10) ((iN ≤ Int.tdiv q5 q3 - iO ∧ Int.tdiv q5 q3 - iO ≤ iX)
 ∧ ((iN ≤ Int.tmod q5 q3 + bif leB (lZ a) (18 : Int) && leB (lZ b) (18 : Int) then zt b else iZ) ∧ q10 ≤ iX) ∧ 3 = lN [AV.junk, AV.junk, AV.junk] ∧ ((True ∧ Lib.itoa q9 = Yi a b) ∧ Lib.itoa q10 = U5 a b) ∧ kI ∧ iZ = XA a b))) ((iN ≤ Int.tdiv q5 q3 ∧ Int.tdiv q5 q3 ≤ iX) ∧ (iN ≤ Int.tmod q5 q3 ∧ Int.tmod q5 q3 ≤ iX) ∧ 3 = lN [AV.junk, AV.junk,
 AV.junk] ∧ ((True ∧ Lib.itoa q4 = Yi a b) ∧ Lib.itoa q8 = U5 a b) ∧ kI ∧ iZ = XA a b)))))))))) (Zy a = true ∧ lN a ≤ 100000000 ∧ Zy b = true ∧ lN b ≤ 100000000 ∧ bF (za Int q11) (bF q13 ((∀ (x : Int), List.Mem x q16 → iZ ≤ x ∧ x < iB) ∧ q17 ∧ zm q16 = zv q11 ∧ zm q18 = zv q14 ∧ lN q18 ≠ 0 ∧ lN q16 ≤ 100000000 ∧ lN q18 ≤ 100000000 ∧ bF q19 (bF q19 (bF (!!zd a == zd b || zU true !zd a == zd b) (zZ
 (bif !zd a == zd b then zn iZ (cI q20) else false) (bF (za Int q24) ((∀ (x : Int), List.Mem x q27 → iZ ≤ x ∧ x < iB) ∧ (∀ (x : Int), List.Mem x (zv (AV.xl true 1 1 (Sx.rowAt [fun (x : Nat) => aI iO]))) → iZ ≤ x ∧ x < iB) ∧ lN q27 ≤ 1000000000 ∧ lN q28 ≤ 1000000000 ∧ bF q13 (bF (za Int q29) (q17 ∧ (∀ (x : Int), List.Mem x q30 → iZ ≤ x ∧ x < iB) ∧ lN q18 ≤ 1000000000 ∧ lN q30 ≤ 1000000000 ∧ zW iB q30 ≤ zW
 iB q18 ∧ bF (ZH Big q31) ((∀ (x : Int), let q33 := (zw 1000000000 (Int.toNat (zW iB q27 + zW iB (zv (AV.xl true 1 1 (Sx.rowAt [fun (x : Nat) => aI iO])))))); List.Mem x (Big.l (ZR (AV.agg 2 (zT [AV.v (Value.bool !zd a == zd b), xI q33])))) → iZ ≤ x ∧ x < iB) ∧ zm q34 = Big.l q35 ∧ lN q34 ≤ 100000000 ∧ bF (ZH Big q36) ((∀ (x : Int), List.Mem x q38 → iZ ≤ x ∧ x <
 iB) ∧ zm q38 = Big.l q39 ∧ lN q38 ≤ 100000000 ∧ bF (!zU false q40 || zU false q40) (bF (!!ZZ q41 != iZ || zU false q40) (zZ (bif ZZ q41 != iZ then true else ZZ q42 != iZ) q43 (3 = lN [AV.junk, AV.junk, AV.junk] ∧ ((True ∧ yq q41 = Yi a b) ∧ yq q42 = U5 a b) ∧ kI ∧ iZ = XA a b))))))))) (bF (ZH Big q44) ((∀ (x : Int), List.Mem x q45 → iZ ≤ x ∧ x < iB) ∧ zm q45 = Big.l q46 ∧ lN q45 ≤ 100000000 ∧ zZ
 (ZH Big q47) ((∀ (x : Int), List.Mem x q48 → iZ ≤ x ∧ x < iB) ∧ zm q48 = Big.l q49 ∧ lN q48 ≤ 100000000 ∧ bF (!zU false q50 || zU false q50) (bF (!!ZZ q51 != iZ || zU false q50) (zZ (bif ZZ q51 != iZ then true else ZZ q52 != iZ) q43 (3 = lN [AV.junk, AV.junk, AV.junk] ∧ ((True ∧ yq q51 = Yi a b) ∧ yq q52 = U5 a b) ∧ kI ∧ iZ = XA a b)))) False)))))))))) := by
 delta bF dK bA xI nM cI kI lZ lN gD iZ iO iX iN iB aI
 dsimp only
 intro hb
 have e0 : (zp.dflt : Int) = 0 := rfl
 simp only [↓ZK, ↓ZT, row_one]
 simp only [sS, dS, e0, Yh, YV, YL, y8, xn, YH, xO, Yg, Yo, IZ, WR, LC, jB, mI]
 refine ⟨by omega, by omega, fun hE => ?_, fun hE => zu.2 ⟨fun c0 => ?_, fun c0 => ?_⟩⟩
 ·have e : XA a b = zI a b := by unfold XA; rw [bne_iff_ne.2 hE]; rfl
  obtain ⟨d1, d2⟩ := m7 (a := a) (b := b) (by rw [e]; exact hE)
  exact ⟨rfl, ⟨d1.symm, d2.symm⟩, e.symm⟩
 ·have e : XA a b = 12 := by unfold XA; rw [hE, c0]; rfl
  obtain ⟨d1, d2⟩ := m7 (a := a) (b := b) (by rw [e]; decide)
  exact ⟨rfl, ⟨d1.symm, d2.symm⟩, e.symm⟩
 have e : XA a b = 0 := by unfold XA; rw [hE, c0]; rfl
 obtain ⟨d1, d2⟩ := M2 e
 obtain ⟨hA, hB⟩ := ym hE
 obtain ⟨a1, a2, a3⟩ := Z1 hA
 obtain ⟨b1, b2, b3⟩ := Z1 hB
 have a4 := Ur hA
 have b4 := Ur hB
 have hv := JX b3 (beq_eq_false_iff_ne.1 c0)
 rw [d1, d2, e]
 refine ⟨a3, b3, zu.2 ⟨fun c => ?_, fun c => ?_⟩⟩
 ·rw [c]
  rw [Bool.and_eq_true] at c
  have x1 := j7 a3 c.1
  have x2 := j7 b3 c.2
  simp only [cond_true]
  obtain ⟨f1, f2, f3, f4⟩ := md (a := zt a) (b := zt b) hv
  refine ⟨hv, ⟨by omega, by omega⟩, hv, zu.2 ⟨fun cc => ?_, fun cc => ?_⟩⟩
  ·obtain ⟨g1, g2⟩ := f1 cc
   rw [g1, g2]
   exact ⟨⟨by omega, by omega⟩, ⟨by omega, by omega⟩, ⟨by omega, by omega⟩, ⟨by omega, by omega⟩, rfl, ⟨rfl, rfl⟩, trivial⟩
  ·obtain ⟨g1, g2⟩ := f2 cc
   rw [g1, g2]
   exact ⟨⟨by omega, by omega⟩, ⟨by omega, by omega⟩, rfl, ⟨rfl, rfl⟩, trivial⟩
 have wa := UA a3
 have wb := UA b3
 have la := v8 a1
 have lb := v8 b1
 have hB0 : 0 < (zt b).natAbs := by omega
 have hdm := Nat.div_add_mod (zt a).natAbs (zt b).natAbs
 have hml := Nat.mod_lt (zt a).natAbs hB0
 have hdl : (zt a).natAbs / (zt b).natAbs ≤ (zt a).natAbs := Nat.div_le_self _ _
 have lb0 : (zw 1000000000 (zt b).natAbs).length ≠ 0 := fun e => by have := yK (b := 1000000000) (by omega) e; omega
 have lq := ZM (b := 1000000000) (by omega) hdl
 have lr := ZM (b := 1000000000) (by omega) (Nat.le_of_lt hml)
 rw [← wa, ← wb]
 rw [show (bif zd a then -((zt a).natAbs : Int) else ((zt a).natAbs : Int)).natAbs = (zt a).natAbs from by rw [wa], show (bif zd b then -((zt b).natAbs : Int) else ((zt b).natAbs : Int)).natAbs = (zt b).natAbs from by rw [wb]]
 clear wa wb e d1 d2 hv a1 b1 c
 generalize hAA : (zt a).natAbs = A at *
 generalize hBB : (zt b).natAbs = B at *
 generalize zd a = m at *
 generalize zd b = t at *
 have hdmI : (B : Int) * ((A / B : Nat) : Int) + ((A % B : Nat) : Int) = (A : Int) := by exact_mod_cast hdm
 generalize A / B = Q at *
 generalize A % B = R at *
 refine ⟨a3, by omega, b3, by omega, (yP _).1, (yP _).1, (yP _).2, (yP _).2, lb0, by omega, by omega, zu.2 ⟨fun cc => ?_, fun cc => ?_⟩⟩
 ·rw [Bool.and_eq_true, zq] at cc
  have hr0 : R ≠ 0 := fun e => by have := cc.2; rw [e, Zj] at this; exact absurd this (by decide)
  have hB2 : 2 * Q ≤ B * Q := Nat.mul_le_mul_right _ (by omega)
  have eq : ((Q : Int) + 1).toNat = Q + 1 := by omega
  have er : ((B : Int) - (R : Int)).toNat = B - R := by omega
  obtain ⟨g1, g2⟩ := NN m t (A := A) (B := B) (q := -((Q + 1 : Nat) : Int)) (r := ((B - R : Nat) : Int)) (by omega) (by
   rw [cc.1, cond_true, Int.mul_neg, Int.natCast_add, Int.mul_add]; omega) (by omega) (by omega)
  have lq2 := ZM (b := 1000000000) (m := Q + 1) (n := A) (by omega) (by omega)
  have lr2 := ZM (b := 1000000000) (m := B - R) (n := B) (by omega) (by omega)
  simp only [eq, er, vF]
  rw [g1, g2, cc.1, cond_true]
  obtain ⟨r1, r2⟩ := ZW (n := -((Q + 1 : Nat) : Int)) (k := 300) (by omega) (by omega) (by rw [Int.natAbs_neg, Int.natAbs_natCast]; omega)
  obtain ⟨r3, r4⟩ := ZW (n := bif t then -((B - R : Nat) : Int) else ((B - R : Nat) : Int)) (k := 300) (by omega) (by omega) (by cases t <;> simp only [cond_true, cond_false, Int.natAbs_neg, Int.natAbs_natCast] <;> omega)
  rw [r1, r2, r3, r4]
  have o1 : Zv 1000000000 [1] := .one (by omega) (by omega)
  refine ⟨(yP _).1, o1, by omega, by simp, (yP _).1, (yP _).1, by omega, by omega, by omega, (yP _).1, (yP _).2, by omega, (yP _).1, (yP _).2, by omega, ?_⟩
  exact ⟨rfl, ⟨rfl, rfl⟩, trivial⟩
 ·have hq : Int.fdiv (bif m then -(A : Int) else (A : Int)) (bif t then -(B : Int) else (B : Int)) = (bif !(m == t) then -(Q : Int) else (Q : Int)) ∧
    Int.fmod (bif m then -(A : Int) else (A : Int)) (bif t then -(B : Int) else (B : Int)) = bif t then -(R : Int) else (R : Int) := by
   refine NN m t (by omega) ?_ (by omega) (by omega)
   cases hs : !(m == t) with
   | false => simp only [cond_false]; omega
   | true =>
    rw [hs, Bool.true_and] at cc
    have hr0 : R = 0 := by
     refine Decidable.byContradiction fun hn => ?_
     have h1 : (zw 1000000000 R).length ≠ 0 := fun e => hn (yK (b := 1000000000) (by omega) e)
     rw [(zq _ _).2 (by omega)] at cc
     cases cc
    rw [hr0] at hdmI ⊢
    simp only [cond_true, Int.mul_neg]
    omega
  obtain ⟨g1, g2⟩ := hq
  simp only [vF]
  rw [g1, g2]
  obtain ⟨r1, r2⟩ := ZW (n := bif !(m == t) then -(Q : Int) else (Q : Int)) (k := 300) (by omega) (by omega) (by cases !(m == t) <;> simp only [cond_true, cond_false, Int.natAbs_neg, Int.natAbs_natCast] <;> omega)
  obtain ⟨r3, r4⟩ := ZW (n := bif t then -(R : Int) else (R : Int)) (k := 300) (by omega) (by omega) (by cases t <;> simp only [cond_true, cond_false, Int.natAbs_neg, Int.natAbs_natCast] <;> omega)
  rw [r1, r2, r3, r4]
  exact ⟨(yP _).1, (yP _).2, by omega, (yP _).1, (yP _).2, by omega, rfl, ⟨rfl, rfl⟩, trivial⟩
theorem J5 {G : List (Nat × Obj)} (hG : zM G) (a : List UInt8) (b : List UInt8) (hla : a.length ≤ 4294967280) (hlb : b.length ≤ 4294967280) : zS Tryz.prog G 192 [.str a, .str b] (.tup 3 (zT [.str (Yi a b), .str (U5 a b), .i (XA a b)])) :=
 zV (T := Iy G) (an := .auto) mixed (Xz hG) (Eq.mp (by kernel_rfl) (KY G a b hla hlb))
theorem Ic {G : List (Nat × Obj)} (hG : zM G) : zQ Tryz.prog G 192 pC := by
 intro xs ps r h hp
 unfold pC at h
 split at h
 ·skip
  rename_i a b
  cases h
  obtain ⟨q0, q1, -⟩ := Zx hp
  exact weaken (ys := [.str a, .str b]) ⟨zX _, zX _, trivial⟩ (J5 hG a b q0 q1)
 ·cases h
structure WZ where
 x : Int
 y : Int
structure VS where
 x : Nat
 y : Nat
def jf (a b : zh) : yW :=
 .two .auto (.two .auto (.two (.two .auto (.two .auto (.two (.two (.one (.loop WZ (fun σ z => [(7, .i z.x), (8, .i z.y)]) (fun σ z => []) 0 (fun σ z => Nat.gcd z.x.natAbs z.y.natAbs = Z0 a b ∧ z.x.natAbs ≤ 1000000000000000000 ∧ z.y.natAbs ≤ 1000000000000000000) (fun σ z => z.y.natAbs) .auto)) .auto) .auto))) (.two .auto (.two (.one (.loop VS (fun σ z => [(10, Zp (zw 1000000000 z.x)), (11, Zp (zw 1000000000 z.y))]) (fun σ z => []) 0 (fun σ z => Nat.gcd z.x z.y = Z0 a b ∧ (zw 1000000000 z.x).length ≤ 100000000 ∧ (zw 1000000000 z.y).length ≤ 100000000) (fun σ z => z.y) .auto)) .auto))))
def Ss : List AV → Option (List zN × AV)
 | [.str a, .str b] => some ([.p (a.length ≤ 4294967280), .p (b.length ≤ 4294967280)], .tup 2 (zT [.str (bif zI a b != 0 then [] else Lib.itoa (Z0 a b : Int)), .i (zI a b)]))
 | _ => none
theorem Kc (G : List (Nat × Obj)) (a : List UInt8) (b : List UInt8) (hla : a.length ≤ 4294967280) (hlb : b.length ≤ 4294967280) :
 let q2 := (zw 1000000000 (Int.natAbs (zt a))); let q3 := (zw 1000000000 (Int.natAbs (zt b))); zB [AV.str a, AV.str b] → lN a ≤ nM ∧ lN b ≤ nM ∧ zZ (zI a b != iZ) (j2 ∧ (True ∧ bA #[] = bif zI a b != iZ then [] else Lib.itoa (cI (Z0 a b))) ∧ kI ∧ zI a b = zI a b) (Zy a = true ∧ Zy b = true ∧ (18 : Int) = (18 : Int) ∧ zZ (leB (lZ a) (18 : Int) && leB (lZ b) (18 : Int)) ((∃ (z : WZ),
 ((Nat.gcd (Int.natAbs (WZ.x z)) (Int.natAbs (WZ.y z)) = Z0 a b ∧ Int.natAbs (WZ.x z) ≤ 1000000000000000000 ∧ Int.natAbs (WZ.y z) ≤ 1000000000000000000) ∧ (kI ∧ (bif leB (lZ a) (18 : Int) && leB (lZ b) (18 : Int) then zt a else iZ) = WZ.x z) ∧ kI ∧ (bif leB (lZ a) (18 : Int) && leB (lZ b) (18 : Int) then zt b else iZ) = WZ.y z) ∧ True) ∧ ∀ (z : WZ), let q1 := (if -WZ.x z > WZ.x z then -WZ.x z else WZ.x z); Nat.gcd (Int.natAbs (WZ.x z)) (Int.natAbs (WZ.y z)) =
 Z0 a b ∧ Int.natAbs (WZ.x z) ≤ 1000000000000000000 ∧ Int.natAbs (WZ.y z) ≤ 1000000000000000000 → zZ (WZ.y z != iZ) (bF (DB.db (WZ.y z ≠ iZ)) (∃ (z' : WZ), (((Nat.gcd (Int.natAbs (WZ.x z')) (Int.natAbs (WZ.y z')) = Z0 a b ∧ Int.natAbs (WZ.x z') ≤ 1000000000000000000 ∧ Int.natAbs (WZ.y z') ≤ 1000000000000000000) ∧ Int.natAbs (WZ.y z') < Int.natAbs (WZ.y z)) ∧ (kI ∧ WZ.y z = WZ.x z') ∧ kI ∧ Int.tmod (WZ.x z) (WZ.y z) = WZ.y z') ∧ True)) (bF (dK (-WZ.x z)) (((iN ≤ if -WZ.x z
 > WZ.x z then -WZ.x z else WZ.x z) ∧ q1 ≤ iX) ∧ j2 ∧ (True ∧ Lib.itoa q1 = bif zI a b != iZ then [] else Lib.itoa (cI (Z0 a b))) ∧ kI ∧ iZ = zI a b))) (Zy a = true ∧ lN a ≤ 100000000 ∧ Zy b = true ∧ lN b ≤ 100000000 ∧ (∃ (z : VS), ((Nat.gcd (VS.x z) (VS.y z) = Z0 a b ∧ lN (zw 1000000000 (VS.x z)) ≤ 100000000 ∧ lN (zw 1000000000 (VS.y z)) ≤ 100000000) ∧ zc (AV.xl false 1 (lN q2) fun i j => aI (gD q2 i
 zp.dflt)) (xI (zw 1000000000 (VS.x z))) ∧ (false = true → false = true) ∧ 1 = 1 ∧ lN (zw 1000000000 (VS.y z)) = lN q3 ∧ ∀ (i j : Nat), i < lN q3 → j < 1 → kI ∧ gD q3 i zp.dflt = gD (zw 1000000000 (VS.y z)) i zp.dflt) ∧ True) ∧ ∀ (z : VS), let q4 := (lN (zw 1000000000 (VS.y z))); let q6 := (lN (zw 1000000000 (VS.x z))); let q5 := (AV.xl false 1 q6 fun i j => aI (List.getD
 (zw 1000000000 (VS.x z)) i zp.dflt)); let q7 := (AV.xl false 1 q4 fun i j => aI (gD (zw 1000000000 (VS.y z)) i zp.dflt)); let q8 := (zv q5); let q9 := (zv q7); let q10 := (zw 1000000000 (Int.toNat (zW iB q8) % Int.toNat (zW iB q9))); let q11 := (AV.agg 2 (zT [AV.v (Array.getD (Value.cells (Value.agg #[Value.bool false, Value.slice (xf Addr) 0 0])) 0 undef), AV.xl false 1 q6 fun i j => aI (gD (zw 1000000000 (VS.x z)) i zp.dflt)])); let q13 := (ZR q11); let q12 := (Big.l q13);
 let q14 := (YX (Big.neg q13) q12); Nat.gcd (VS.x z) (VS.y z) = Z0 a b ∧ lN (zw 1000000000 (VS.x z)) ≤ 100000000 ∧ lN (zw 1000000000 (VS.y z)) ≤ 100000000 → zZ (zn iZ (cI q4)) (bF (za Int q5) (bF (za Int q7) ((∀ (x : Int), List.Mem x q8 → iZ ≤ x ∧ x < iB) ∧ (∀ (x : Int), List.Mem x q9 → iZ ≤ x ∧ x < iB) ∧ zm q8 = zv q5 ∧ zm q9 = zv q7 ∧ lN q9 ≠ 0 ∧ lN q8 ≤ 100000000 ∧ lN q9 ≤ 100000000 ∧ ∃ (z' : VS), (((Nat.gcd (VS.x z') (VS.y z') = Z0 a b ∧
 lN (zw 1000000000 (VS.x z')) ≤ 100000000 ∧ lN (zw 1000000000 (VS.y z')) ≤ 100000000) ∧ VS.y z' < VS.y z) ∧ zc q7 (xI (zw 1000000000 (VS.x z'))) ∧ (false = true → false = true) ∧ 1 = 1 ∧ lN (zw 1000000000 (VS.y z')) = lN q10 ∧ ∀ (i j : Nat), i < lN q10 → j < 1 → kI ∧ gD q10 i zp.dflt = gD (zw 1000000000 (VS.y z')) i zp.dflt) ∧ True))) (bF (ZH Big q11) ((∀ (x : Int),
 List.Mem x q12 → iZ ≤ x ∧ x < iB) ∧ zm q12 = Big.l q13 ∧ lN q12 ≤ 100000000 ∧ j2 ∧ (True ∧ yq q14 = bif zI a b != iZ then [] else Lib.itoa (cI (Z0 a b))) ∧ kI ∧ ZZ q14 = zI a b)))) := by
 delta bF dK bA xI nM cI kI j2 lZ lN gD iZ iX iN iB aI
 dsimp only
 intro hb
 have e0 : (zp.dflt : Int) = 0 := rfl
 simp only [↓ZK, ↓ZT, row_one]
 simp only [sS, dS, e0, Yh, YV, YL, y8, xn, YH, xO, Yg, Yo, IZ, WR, LC, jB, mI]
 refine ⟨by omega, by omega, fun hE => ⟨rfl, by rw [bne_iff_ne.2 hE]; rfl⟩, fun hE => ?_⟩
 obtain ⟨hA, hB⟩ := ym hE
 obtain ⟨a1, a2, a3⟩ := Z1 hA
 obtain ⟨b1, b2, b3⟩ := Z1 hB
 have la := v8 a1
 have lb := v8 b1
 have gl : Z0 a b ≤ (zt a).natAbs + (zt b).natAbs := by
  unfold Z0
  by_cases h : (zt a).natAbs = 0
  ·rw [h, Nat.gcd_zero_left]; omega
  ·exact Nat.le_trans (Nat.le_of_dvd (by omega) (Nat.gcd_dvd_left _ _)) (by omega)
 have a4 := Ur hA
 have b4 := Ur hB
 have gl3 : Z0 a b < 10 ^ 300 := by
  unfold Z0
  by_cases h : (zt a).natAbs = 0
  ·rw [h, Nat.gcd_zero_left]; exact b4
  ·exact Nat.lt_of_le_of_lt (Nat.le_of_dvd (by omega) (Nat.gcd_dvd_left _ _)) a4
 rw [hE]
 simp only [bne_self_eq_false, cond_false]
 refine ⟨a3, b3, zu.2 ⟨fun c => ?_, fun c => ?_⟩⟩
 ·rw [c]
  rw [Bool.and_eq_true] at c
  have x1 := j7 a3 c.1
  have x2 := j7 b3 c.2
  simp only [cond_true]
  refine ⟨⟨⟨zt a, zt b⟩, ⟨rfl, by simp only; omega, by simp only; omega⟩, rfl, rfl⟩, fun z ⟨z1, z2, z3⟩ => ⟨fun hy => ⟨hy, ⟨z.y, z.x.tmod z.y⟩, ⟨⟨?_, z3, ?_⟩, ?_⟩, rfl, rfl⟩, fun hy => ?_⟩⟩
  ·rw [Int.natAbs_tmod, ← wy (y := z.y.natAbs) (by omega), z1]
  ·rw [Int.natAbs_tmod]
   have : z.x.natAbs % z.y.natAbs ≤ z.x.natAbs := Nat.mod_le _ _
   omega
  ·rw [Int.natAbs_tmod]
   exact Nat.mod_lt _ (by omega)
  ·rw [hy, Int.natAbs_zero, Nat.gcd_zero_right] at z1
   rw [U8, z1]
   rw [z1] at z2
   exact ⟨⟨by omega, by omega⟩, ⟨by omega, by omega⟩, rfl, rfl, trivial⟩
 ·refine ⟨a3, by omega, b3, by omega, ⟨⟨(zt a).natAbs, (zt b).natAbs⟩, ⟨rfl, by simp only; omega, by simp only; omega⟩, zX _, fun h => h, rfl, fun _ _ _ _ => rfl⟩, fun z ⟨z1, z2, z3⟩ => ⟨fun hy => ?_, fun hy => ?_⟩⟩
  ·have hy0 : z.y ≠ 0 := fun e => by rw [e, Zj] at hy; exact absurd hy (by decide)
   have hm : z.x % z.y < z.y := Nat.mod_lt _ (by omega)
   have hlen := ZM (b := 1000000000) (m := z.x % z.y) (n := z.y) (by omega) (by omega)
   exact ⟨(yP _).1, (yP _).1, (yP _).2, (yP _).2, by omega, z2, z3, ⟨z.y, z.x % z.y⟩, ⟨⟨by rw [← wy hy0]; exact z1, z3, by simp only; omega⟩, hm⟩, zX _, fun h => h, rfl, fun _ _ _ _ => rfl⟩
  ·have hy0 := yK (b := 1000000000) (n := z.y) (by omega) (by omega)
   rw [hy0, Nat.gcd_zero_right] at z1
   rw [vF, cond_false, z1]
   rw [z1] at z2
   obtain ⟨r1, r2⟩ := ZW (n := (Z0 a b : Int)) (k := 300) (by omega) (by omega) (by rw [Int.natAbs_natCast]; exact gl3)
   rw [r1, r2]
   exact ⟨(yP _).1, (yP _).2, z2, rfl, rfl, rfl⟩
theorem iG {G : List (Nat × Obj)} (hG : zM G) (a : List UInt8) (b : List UInt8) (hla : a.length ≤ 4294967280) (hlb : b.length ≤ 4294967280) : zS Tryz.prog G 191 [.str a, .str b] (.tup 2 (zT [.str (bif zI a b != 0 then [] else Lib.itoa (Z0 a b : Int)), .i (zI a b)])) :=
 zV (T := Iy G) (an := jf a b) mixed (Xz hG) (Eq.mp (by kernel_rfl) (Kc G a b hla hlb))
theorem ML {G : List (Nat × Obj)} (hG : zM G) : zQ Tryz.prog G 191 Ss := by
 intro xs ps r h hp
 unfold Ss at h
 split at h
 ·skip
  rename_i a b
  cases h
  obtain ⟨q0, q1, -⟩ := Zx hp
  exact weaken (ys := [.str a, .str b]) ⟨zX _, zX _, trivial⟩ (iG hG a b q0 q1)
 ·cases h
end Go.Te

namespace Go.Te
open Go Go.Sx Go.Proofs Go.Ar
set_option maxRecDepth 100000
set_option maxHeartbeats 4000000
def OR (x y : List Int) : yW :=
 .two .auto (.two .auto (.two .auto (.two (.two .auto (.one (.loop ZU (fun σ z => [(0, σ.tm 0), (1, σ.tm 1), (5, .ns σ.nb 0 z.out.length), (6, .i z.c), (7, .i (z.out.length : Int))]) (fun σ z => [(σ.nb, w8 z.out)]) 1 (fun σ z => Wo 1000000 x y z.out.length z.out z.c ∧ z.out.length ≤ max x.length y.length + 1 ∧ (z.out.length = max x.length y.length + 1 → z.c = 0)) (fun σ z => max x.length y.length + 1 - z.out.length) .auto))) .auto)))
def tT : List AV → Option (List zN × AV)
 | [x_x, x_y] => some ([.b (za Int x_x), .b (za Int x_y), .p (Zv 1000000 (zv x_x)), .p (Zv 1000000 (zv x_y)), .p ((zv x_x).length ≤ 1000000000), .p ((zv x_y).length ≤ 1000000000)], Zp (zw 1000000 (zW 1000000 (zv x_x) + zW 1000000 (zv x_y)).toNat))
 | _ => none
theorem nF (x : List Int) (y : List Int) (hx : Zv 1000000 x) (hy : Zv 1000000 y) (hlx : x.length ≤ 1000000000) (hly : y.length ≤ 1000000000) :
 let q1 := (xI x); let q2 := (xI y); let q6 := (zv q1); let q8 := (zv q2); let q11 := (zw 1000000 (Int.toNat (zW (1000000 : Int) x + zW (1000000 : Int) y))); zB [xI x, xI y] → (∃ (z : ZU), ((Wo (1000000 : Int) x y (lN (ZU.out z)) (ZU.out
 z) (ZU.c z) ∧ lN (ZU.out z) ≤ max (lN x) (lN y) + 1 ∧ (lN (ZU.out z) = max (lN x) (lN y) + 1 → ZU.c z = iZ)) ∧ zc q1 q1 ∧ zc q2 q2 ∧ (some (xf Nat) = some (xf Nat) ∧ 0 = 0 ∧ lN (ZU.out z) = 0 ∧ true = true ∧ 0 = 0) ∧ (kI ∧ iZ = ZU.c z) ∧ kI ∧ iZ = (lZ (ZU.out z))) ∧ lN (ZU.out z) = 0) ∧ ∀ (z : ZU), let q4 := (zn (lZ (ZU.out z)) (lZ x)); let q3 := (!zU false q4 || zU false q4); let q5 := (bif zn
 (lZ (ZU.out z)) (lZ x) then true else zn (lZ (ZU.out z)) (lZ y)); let q7 := (Int.toNat (lZ (ZU.out z))); let q9 := (gD q6 q7 iZ + gD q8 q7 iZ + ZU.c z); let q10 := (AV.xl false 1 (lN (ZU.out z)) fun i j => aI (gD (ZU.out z) (0 + i) iZ)); let q12 := (zm (zv q10)); Wo (1000000 : Int) x y (lN (ZU.out z)) (ZU.out z) (ZU.c z) ∧ lN (ZU.out z) ≤ max (lN x) (lN y) + 1 ∧ (List.length
 (ZU.out z) = max (lN x) (lN y) + 1 → ZU.c z = iZ) → bF q3 (bF q3 (bF q3 (bF (!!zn (lZ (ZU.out z)) (lZ x) || zU false q4) (bF (!zU false q5 || zU false q5) (bF ((!!bif zn (lZ (ZU.out z)) (lZ x) then true else zn (lZ (ZU.out z)) (lZ y)) || zU false q5) (zZ (bif bif zn (lZ (ZU.out z)) (lZ x) then true else zn (lZ (ZU.out z)) (lZ y) then true else
 zn iZ (ZU.c z)) (bF (za Int q1) (iZ ≤ (lZ (ZU.out z)) ∧ bF (za Int q2) (iZ ≤ (lZ (ZU.out z)) ∧ bF (dK (gD q6 q7 iZ + gD q8 q7 iZ)) (bF (dK q9) (bF (DB.db ((lN (ZU.out z) + 1) * 8 ≤ 140737488355328)) (bF (dK (Int.tdiv q9 (1000000 : Int))) (bF (dK ((lZ (ZU.out z)) + iO)) (∃ (z' : ZU), (((Wo (1000000 : Int) x y (lN (ZU.out z')) (ZU.out z') (ZU.c z') ∧ lN (ZU.out
 z') ≤ max (lN x) (lN y) + 1 ∧ (lN (ZU.out z') = max (lN x) (lN y) + 1 → ZU.c z' = iZ)) ∧ max (lN x) (lN y) + 1 - lN (ZU.out z') < max (lN x) (lN y) + 1 - lN (ZU.out z)) ∧ zc q1 q1 ∧ zc q2 q2 ∧ (nat_lit 0 = 0 ∧ 0 = 0 ∧ lN (ZU.out z') = lN (ZU.out z) + 1) ∧ (kI ∧ Int.tdiv q9 (1000000 : Int) = ZU.c z') ∧ kI ∧ (lZ (ZU.out z)) + iO = (lZ (ZU.out z'))) ∧ (3 : TypeId) = 3 ∧ 1 = 1 ∧ List.length
 (ZU.out z') = lN (ZU.out z) + 1 ∧ ∀ (i j : Nat), i < lN (ZU.out z) + 1 → j < 1 → zc (if i < lN (ZU.out z) then aI (gD (ZU.out z) i iZ) else Sx.rowAt [fun (x_1 : Nat) => aI (Int.tmod q9 (1000000 : Int))] (i - lN (ZU.out z)) j) (aI (gD (ZU.out z') i iZ)))))))))) (bF (za Int q10) ((false = true → false = true) ∧ 1 = 1 ∧ lN q11 = lN q12 ∧ ∀ (i j : Nat), i < lN q12 → j < 1 → kI ∧
 gD q12 i zp.dflt = gD q11 i zp.dflt)))))))) := by
 delta bF dK xI kI lZ lN gD iZ iO aI
 dsimp only
 intro hb
 have e0 : (zp.dflt : Int) = 0 := rfl
 simp only [↓ZK, ↓ZT, row_one]
 simp only [sS, dS, e0]
 refine ⟨⟨⟨[], 0⟩, ⟨⟨.zero _ _ _, by simp, fun h => rfl⟩, rfl, rfl, rfl⟩, rfl⟩, fun z ⟨z1, z2, z3⟩ => zu.2 ⟨fun c => ?_, fun c => ?_⟩⟩
 ·have g1 := hx.get (by omega) z.out.length
  have g2 := hy.get (by omega) z.out.length
  have c0 := z1.c0
  have c1 := z1.c1
  have hs := Wo.step (by omega) hx hy z1
  have d0 := hs.c0
  have d1 := hs.c1
  have hz : z.out.length ≤ max x.length y.length := by
   rw [Bool.or_eq_true, Bool.or_eq_true, zq, zq, zq] at c
   omega
  refine ⟨by omega, by omega, ⟨by omega, by omega⟩, ⟨by omega, by omega⟩, by omega, ⟨by omega, by omega⟩, ⟨by omega, by omega⟩, ⟨z.out ++ [(x.getD z.out.length 0 + y.getD z.out.length 0 + z.c).tmod 1000000], (x.getD z.out.length 0 + y.getD z.out.length 0 + z.c).tdiv 1000000⟩, ⟨⟨⟨by simp only [List.length_append, List.length_singleton]; exact hs, by simp; omega, fun h => ?_⟩, by simp; omega⟩, by simp, rfl, by simp⟩, by simp, fun i j => uL _ _ i j⟩
  grind
 ·rw [Bool.or_eq_false_iff, Bool.or_eq_false_iff, Bool.eq_false_iff, Bool.eq_false_iff, Bool.eq_false_iff, Ne, Ne, Ne, zq, zq, zq] at c
  have c0 := z1.c0
  have hv := z1.val
  rw [show z.c = 0 by omega, Int.mul_zero, Int.add_zero, List.take_of_length_le (show x.length ≤ z.out.length by omega), List.take_of_length_le (show y.length ≤ z.out.length by omega)] at hv
  have ht : zm z.out = zw 1000000 (zW 1000000 z.out).toNat := YT (b := 1000000) (by omega) z1.in_
  simp_all
theorem lV (x : List Int) (y : List Int) (hx : Zv 1000000 x) (hy : Zv 1000000 y) (hlx : x.length ≤ 1000000000) (hly : y.length ≤ 1000000000) : zS Tryz.prog [] 162 [Zp x, Zp y] (Zp (zw 1000000 (zW 1000000 x + zW 1000000 y).toNat)) :=
 zV (T := (T0.plus 154 xJ).plus 156 wU) (an := OR x y) mixed (zY.plus (zY.plus zr wS) VV) (Eq.mp (by kernel_rfl) (nF x y hx hy hlx hly))
theorem NT : zQ Tryz.prog [] 162 tT := by
 intro xs ps r h hp
 unfold tT at h
 split at h
 ·skip
  rename_i x_x x_y
  cases h
  obtain ⟨q0, q1, q2, q3, q4, q5, -⟩ := Zx hp
  exact weaken (ys := [Zp (zv x_x), Zp (zv x_y)]) ⟨zi q0, zi q1, trivial⟩ (lV (zv x_x) (zv x_y) q2 q3 q4 q5)
 ·cases h
def Sp : List AV → Option (List zN × AV)
 | [x_x] => some ([.b (ZH Big x_x)], .agg 2 (zT [.b (bif Nat.beq (ZR (α := Big) x_x).l.length 0 then (ZR (α := Big) x_x).neg else !(ZR (α := Big) x_x).neg), Zp (ZR (α := Big) x_x).l]))
 | _ => none
theorem MI (x : Big) :
 zB [AV.agg 2 (zp.enc x)] → zZ ((lZ (Big.l x)) == iZ) (2 = 2 ∧ (Big.neg x = bif Nat.beq (lN (Big.l x)) 0 then Big.neg x else !Big.neg x) ∧ (false = true → false = true) ∧ 1 = 1 ∧ lN (Big.l x) = lN (Big.l x) ∧ ∀ (i j : Nat), i < lN (Big.l x) → j < 1 → kI ∧ gD (Big.l x) i zp.dflt = gD (Big.l x) i zp.dflt) (2 = 2 ∧ ((!Big.neg x) = bif Nat.beq (lN (Big.l x)) 0 then Big.neg x else !Big.neg x) ∧ (false = true → false = true) ∧ 1 = 1 ∧ lN (Big.l x) = lN (Big.l x) ∧ ∀ (i j :
 Nat), i < lN (Big.l x) → j < 1 → kI ∧ gD (Big.l x) i zp.dflt = gD (Big.l x) i zp.dflt) := by
 delta kI lZ lN gD iZ
 intro hb
 have e0 : (zp.dflt : Int) = 0 := rfl
 simp only [↓ZK, ↓ZT, row_one]
 simp only [sS, dS, e0]
 refine ⟨fun h => ⟨?_, fun h => h, fun _ _ _ _ => trivial⟩, fun h => ⟨?_, fun h => h, fun _ _ _ _ => trivial⟩⟩
 ·simp_all
 ·rw [show Nat.beq x.l.length 0 = false from Bool.eq_false_iff.2 fun e => by rw [Nat.beq_eq] at e; omega]; rfl
theorem jk (x : Big) : zS Tryz.prog [] 109 [yx x] (.agg 2 (zT [.b (bif Nat.beq x.l.length 0 then x.neg else !x.neg), Zp x.l])) :=
 zV (T := T0) (an := .auto) mixed zr (Eq.mp (by kernel_rfl) (MI x))
theorem Ka : zQ Tryz.prog [] 109 Sp := by
 intro xs ps r h hp
 unfold Sp at h
 split at h
 ·skip
  rename_i x_x
  cases h
  obtain ⟨q0, -⟩ := Zx hp
  exact weaken (ys := [yx (ZR (α := Big) x_x)]) ⟨zH q0, trivial⟩ (jk (ZR (α := Big) x_x))
 ·cases h
def UY (n : Bool) (l : List Int) : Int := bif n then - zW 1000000 l else zW 1000000 l
def S5 (x y : Big) : Bool := bif x.neg == y.neg then x.neg else bif zn (ug (cmpL x.l y.l)) 0 then (bif Nat.beq (zW 1000000 y.l - zW 1000000 x.l).toNat 0 then false else y.neg) else (bif Nat.beq (zW 1000000 x.l - zW 1000000 y.l).toNat 0 then false else x.neg)
def VR (x y : Big) : Int := bif x.neg == y.neg then zW 1000000 x.l + zW 1000000 y.l else bif zn (ug (cmpL x.l y.l)) 0 then zW 1000000 y.l - zW 1000000 x.l else zW 1000000 x.l - zW 1000000 y.l
theorem hZ {x y : List Int} (hx : Zv 1000000 x) (hy : Zv 1000000 y) (tx : zm x = x) (ty : zm y = y) :
  (ug (cmpL x y) < 0 → zW 1000000 x < zW 1000000 y ∧ x.length ≤ y.length) ∧ (0 ≤ ug (cmpL x y) → zW 1000000 y ≤ zW 1000000 x ∧ y.length ≤ x.length) := by
 have e1 : x = zw 1000000 (zW 1000000 x).toNat := YI (b := 1000000) (by omega) hx tx
 have e2 : y = zw 1000000 (zW 1000000 y).toNat := YI (b := 1000000) (by omega) hy ty
 have v1 := zj (b := 1000000) (by omega) hx
 have v2 := zj (b := 1000000) (by omega) hy
 have c := (Va (b := 1000000) (by omega) (zW 1000000 x).toNat (zW 1000000 y).toNat).1
 rw [← e1, ← e2] at c
 refine ⟨fun h => ?_, fun h => ?_⟩
 ·rw [rN] at h
  have h1 := c.1 h
  have := ZM (b := 1000000) (m := (zW 1000000 x).toNat) (n := (zW 1000000 y).toNat) (by omega) (by omega)
  grind
 ·have h0 : ¬ cmpL x y < 0 := fun e => by rw [← rN] at e; omega
  have h1 : ¬ (zW 1000000 x).toNat < (zW 1000000 y).toNat := fun e => h0 (c.2 e)
  have := ZM (b := 1000000) (m := (zW 1000000 y).toNat) (n := (zW 1000000 x).toNat) (by omega) (by omega)
  grind
theorem iJ {n : Nat} (h : ((zw 1000000 n).length : Int) = 0) : Nat.beq n 0 = true := by rw [Nat.beq_eq]; exact yK (b := 1000000) (by omega) (by omega)
theorem Jd {n : Nat} (h : ((zw 1000000 n).length : Int) ≠ 0) : Nat.beq n 0 = false := Bool.eq_false_iff.2 fun e => by
 rw [Nat.beq_eq] at e
 rw [e, Zj] at h
 exact h rfl
def Sd : List AV → Option (List zN × AV)
 | [x_x, x_y] => some ([.b (ZH Big x_x), .b (ZH Big x_y), .p (Zv 1000000 (ZR (α := Big) x_x).l), .p (Zv 1000000 (ZR (α := Big) x_y).l), .p (zm (ZR (α := Big) x_x).l = (ZR (α := Big) x_x).l), .p (zm (ZR (α := Big) x_y).l = (ZR (α := Big) x_y).l), .p ((ZR (α := Big) x_x).l.length ≤ 1000000000), .p ((ZR (α := Big) x_y).l.length ≤ 1000000000)], .agg 2 (zT [.b (S5 (ZR (α := Big) x_x) (ZR (α := Big) x_y)), Zp (zw 1000000 (VR (ZR (α := Big) x_x) (ZR (α := Big) x_y)).toNat)]))
 | _ => none
theorem Mj (x : Big) (y : Big) (hx : Zv 1000000 x.l) (hy : Zv 1000000 y.l) (tx : zm x.l = x.l) (ty : zm y.l = y.l) (lx : x.l.length ≤ 1000000000) (ly : y.l.length ≤ 1000000000) :
 let q2 := (xI (Big.l x)); let q1 := (za Int q2); let q4 := (xI (Big.l y)); let q3 := (za Int q4); let q6 := (zv q2); let q5 := (∀ (x_1 : Int), List.Mem x_1 q6 → iZ ≤ x_1 ∧ x_1 < (1000000 : Int)); let q8 := (zv q4); let q7 := (∀ (x : Int), List.Mem x q8 → iZ ≤ x ∧ x < (1000000 : Int)); let q9 := (zw 1000000 (Int.toNat (zW (1000000 : Int) q6 + zW (1000000 : Int) q8))); let q10 :=
 (zw 1000000 (Int.toNat (zW (1000000 : Int) q8 - zW (1000000 : Int) q6))); let q11 := (zw 1000000 (Int.toNat (zW (1000000 : Int) q6 - zW (1000000 : Int) q8))); zB [AV.agg 2 (zp.enc x), AV.agg 2 (zp.enc y)] → zZ (Big.neg x == Big.neg y) (bF q1 (bF q3 (q5 ∧ q7 ∧ lN q6 ≤ 1000000000 ∧ lN q8 ≤ 1000000000 ∧ 2 = 2 ∧ Big.neg x = S5 x y ∧ (false = true → false = true) ∧ 1 = 1 ∧ lN (zw 1000000 (Int.toNat (VR x y))) = lN q9 ∧ ∀ (i j : Nat), i < lN q9 → j < 1 → kI ∧ gD q9 i zp.dflt = gD (zw
 1000000 (Int.toNat (VR x y))) i zp.dflt))) (bF q1 (bF q3 (zZ (zn (ug (cmpL q6 q8)) iZ) (bF q3 (bF q1 (q7 ∧ q5 ∧ lN q6 ≤ lN q8 ∧ lN q8 ≤ 1000000000 ∧ zW (1000000 : Int) q6 ≤ zW (1000000 : Int) q8 ∧ zZ ((lZ q10) == iZ) (2 = 2 ∧ false = S5 x y ∧ (false = true → false = true) ∧ 1 = 1 ∧ lN (zw 1000000 (Int.toNat (VR x y))) = lN q10 ∧ ∀ (i j : Nat), i < lN q10 → j < 1 → kI ∧ gD q10 i zp.dflt = gD (zw 1000000 (Int.toNat (VR x y))) i
 zp.dflt) (2 = 2 ∧ Big.neg y = S5 x y ∧ (false = true → false = true) ∧ 1 = 1 ∧ lN (zw 1000000 (Int.toNat (VR x y))) = lN q10 ∧ ∀ (i j : Nat), i < lN q10 → j < 1 → kI ∧ gD q10 i zp.dflt = gD (zw 1000000 (Int.toNat (VR x y))) i zp.dflt)))) (bF q1 (bF q3 (q5 ∧ q7 ∧ lN q8 ≤ lN q6 ∧ lN q6 ≤ 1000000000 ∧ zW (1000000 : Int) q8 ≤ zW (1000000 : Int) q6 ∧ zZ ((lZ q11) == iZ) (2 = 2 ∧ false = S5 x y ∧ (false = true → false = true) ∧ 1 = 1 ∧ List.length
 (zw 1000000 (Int.toNat (VR x y))) = lN q11 ∧ ∀ (i j : Nat), i < lN q11 → j < 1 → kI ∧ gD q11 i zp.dflt = gD (zw 1000000 (Int.toNat (VR x y))) i zp.dflt) (2 = 2 ∧ Big.neg x = S5 x y ∧ (false = true → false = true) ∧ 1 = 1 ∧ lN (zw 1000000 (Int.toNat (VR x y))) = lN q11 ∧ ∀ (i j : Nat), i < lN q11 → j < 1 → kI ∧ gD q11 i zp.dflt = gD (zw 1000000 (Int.toNat (VR x y))) i zp.dflt))))))) := by
 delta bF xI kI lZ lN gD iZ
 dsimp only
 intro hb
 have e0 : (zp.dflt : Int) = 0 := rfl
 simp only [↓ZK, ↓ZT, row_one]
 simp only [sS, dS, e0]
 obtain ⟨c1, c2⟩ := hZ hx hy tx ty
 refine zu.2 ⟨fun c => ⟨hx, hy, lx, ly, ?_, fun h => h, ?_, fun i j _ _ => ?_⟩, fun c => ⟨fun h => ⟨hy, hx, (c1 h).2, ly, by have := (c1 h).1; omega, fun h2 => ⟨?_, fun h => h, ?_, fun i j _ _ => ?_⟩, fun h2 => ⟨?_, fun h => h, ?_, fun i j _ _ => ?_⟩⟩,
  fun h => ⟨hx, hy, (c2 h).2, lx, (c2 h).1, fun h2 => ⟨?_, fun h => h, ?_, fun i j _ _ => ?_⟩, fun h2 => ⟨?_, fun h => h, ?_, fun i j _ _ => ?_⟩⟩⟩⟩
 any_goals (unfold S5; rw [c]; first | rfl | (rw [show zn (ug (cmpL x.l y.l)) 0 = true from (zq _ _).2 h]; first | (rw [iJ h2]; rfl) | (rw [Jd h2]; rfl)) | (rw [show zn (ug (cmpL x.l y.l)) 0 = false from Bool.eq_false_iff.2 fun e => by have := (zq _ _).1 e; omega]; first | (rw [iJ h2]; rfl) | (rw [Jd h2]; rfl)))
 all_goals (unfold VR; rw [c]; first | rfl | (rw [show zn (ug (cmpL x.l y.l)) 0 = true from (zq _ _).2 h]; rfl) | (rw [show zn (ug (cmpL x.l y.l)) 0 = false from Bool.eq_false_iff.2 fun e => by have := (zq _ _).1 e; omega]; rfl))
theorem kz (x : Big) (y : Big) (hx : Zv 1000000 x.l) (hy : Zv 1000000 y.l) (tx : zm x.l = x.l) (ty : zm y.l = y.l) (lx : x.l.length ≤ 1000000000) (ly : y.l.length ≤ 1000000000) : zS Tryz.prog [] 108 [yx x, yx y] (.agg 2 (zT [.b (S5 x y), Zp (zw 1000000 (VR x y).toNat)])) :=
 zV (T := ((T0.plus 159 vD).plus 162 tT).plus 157 WE) (an := .auto) mixed (zY.plus (zY.plus (zY.plus zr qO) NT) T9) (Eq.mp (by kernel_rfl) (Mj x y hx hy tx ty lx ly))
theorem K7 : zQ Tryz.prog [] 108 Sd := by
 intro xs ps r h hp
 unfold Sd at h
 split at h
 ·skip
  rename_i x_x x_y
  cases h
  obtain ⟨q0, q1, q2, q3, q4, q5, q6, q7, -⟩ := Zx hp
  exact weaken (ys := [yx (ZR (α := Big) x_x), yx (ZR (α := Big) x_y)]) ⟨zH q0, zH q1, trivial⟩ (kz (ZR (α := Big) x_x) (ZR (α := Big) x_y) q2 q3 q4 q5 q6 q7)
 ·cases h
def rW : List AV → Option (List zN × AV)
 | [x_x, x_y] => some ([.b (ZH Big x_x), .b (ZH Big x_y), .p (Zv 1000000 (ZR (α := Big) x_x).l), .p (Zv 1000000 (ZR (α := Big) x_y).l), .p ((ZR (α := Big) x_x).l.length ≤ 1000000000), .p ((ZR (α := Big) x_y).l.length ≤ 1000000000)], .agg 2 (zT [.b (bif Nat.beq (zW 1000000 (ZR (α := Big) x_x).l * zW 1000000 (ZR (α := Big) x_y).l).toNat 0 then false else !((ZR (α := Big) x_x).neg == (ZR (α := Big) x_y).neg)), Zp (zw 1000000 (zW 1000000 (ZR (α := Big) x_x).l * zW 1000000 (ZR (α := Big) x_y).l).toNat)]))
 | _ => none
theorem my (x : Big) (y : Big) (hx : Zv 1000000 x.l) (hy : Zv 1000000 y.l) (lx : x.l.length ≤ 1000000000) (ly : y.l.length ≤ 1000000000) :
 let q1 := (xI (Big.l x)); let q2 := (xI (Big.l y)); let q3 := (zv q1); let q4 := (zv q2); let q5 := (zw 1000000 (Int.toNat (zW (1000000 : Int) q3 * zW (1000000 : Int) q4))); let q6 := (Int.toNat (zW (1000000 : Int) (Big.l x) * zW (1000000 : Int) (Big.l y))); let q7 := (zw 1000000 q6); zB [AV.agg 2 (zp.enc x), AV.agg 2 (zp.enc y)] → bF (za Int q1) (bF (za Int q2) ((∀ (x_1 : Int),
 List.Mem x_1 q3 → iZ ≤ x_1 ∧ x_1 < (1000000 : Int)) ∧ (∀ (x : Int), List.Mem x q4 → iZ ≤ x ∧ x < (1000000 : Int)) ∧ lN q3 ≤ 1000000000 ∧ lN q4 ≤ 1000000000 ∧ zZ ((lZ q5) == iZ) (2 = 2 ∧ (false = bif Nat.beq q6 0 then false else !Big.neg x == Big.neg y) ∧ (false = true → false = true) ∧ 1 = 1 ∧ lN q7 = lN q5 ∧ ∀ (i j : Nat), i < lN q5 → j < 1 → kI ∧ gD q5 i zp.dflt = gD q7 i zp.dflt) (2 = 2 ∧ ((!Big.neg x == Big.neg y) = bif Nat.beq q6 0 then false else !Big.neg x == Big.neg y)
 ∧ (false = true → false = true) ∧ 1 = 1 ∧ lN q7 = lN q5 ∧ ∀ (i j : Nat), i < lN q5 → j < 1 → kI ∧ gD q5 i zp.dflt = gD q7 i zp.dflt))) := by
 delta bF xI kI lZ lN gD iZ
 dsimp only
 intro hb
 have e0 : (zp.dflt : Int) = 0 := rfl
 simp only [↓ZK, ↓ZT, row_one]
 simp only [sS, dS, e0]
 refine ⟨hx, hy, lx, ly, fun h => ⟨?_, fun h => h, fun _ _ _ _ => trivial⟩, fun h => ⟨?_, fun h => h, fun _ _ _ _ => trivial⟩⟩
 ·rw [iJ h]; rfl
 ·rw [Jd h]; rfl
theorem L6 (x : Big) (y : Big) (hx : Zv 1000000 x.l) (hy : Zv 1000000 y.l) (lx : x.l.length ≤ 1000000000) (ly : y.l.length ≤ 1000000000) : zS Tryz.prog [] 161 [yx x, yx y] (.agg 2 (zT [.b (bif Nat.beq (zW 1000000 x.l * zW 1000000 y.l).toNat 0 then false else !(x.neg == y.neg)), Zp (zw 1000000 (zW 1000000 x.l * zW 1000000 y.l).toNat)])) :=
 zV (T := T0.plus 158 Wb) (an := .auto) mixed (zY.plus zr TE) (Eq.mp (by kernel_rfl) (my x y hx hy lx ly))
theorem Kp : zQ Tryz.prog [] 161 rW := by
 intro xs ps r h hp
 unfold rW at h
 split at h
 ·skip
  rename_i x_x x_y
  cases h
  obtain ⟨q0, q1, q2, q3, q4, q5, -⟩ := Zx hp
  exact weaken (ys := [yx (ZR (α := Big) x_x), yx (ZR (α := Big) x_y)]) ⟨zH q0, zH q1, trivial⟩ (L6 (ZR (α := Big) x_x) (ZR (α := Big) x_y) q2 q3 q4 q5)
 ·cases h
theorem Nm {x y : Big} (hx : Zv 1000000 x.l) (hy : Zv 1000000 y.l) (tx : zm x.l = x.l) (ty : zm y.l = y.l) :
  0 ≤ VR x y ∧ (bif S5 x y then - VR x y else VR x y) = UY x.neg x.l + UY y.neg y.l := by
 have v1 := zj (b := 1000000) (by omega) hx
 have v2 := zj (b := 1000000) (by omega) hy
 obtain ⟨c1, c2⟩ := hZ hx hy tx ty
 unfold S5 VR UY
 cases hl : zn (ug (cmpL x.l y.l)) 0 with
 | true =>
  have h := c1 ((zq _ _).1 hl)
  rw [show Nat.beq (zW 1000000 y.l - zW 1000000 x.l).toNat 0 = false from Bool.eq_false_iff.2 fun e => by rw [Nat.beq_eq] at e; omega]
  grind
 | false =>
  have h := c2 (by have : ¬ ug (cmpL x.l y.l) < 0 := fun e => by rw [(zq _ _).2 e] at hl; cases hl
                   omega)
  cases hz : Nat.beq (zW 1000000 x.l - zW 1000000 y.l).toNat 0 with
  | true =>
   rw [Nat.beq_eq] at hz
   grind
  | false => grind
end Go.Te
