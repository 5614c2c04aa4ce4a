/- span.row: a row of a line. -/
import Derived.Test.YtdkpceodckdcfaaGreatDoorTeTd
import Derived.Test.YtdkpceodckdcfaaGreatDoorTeJ
import Derived.ChangeArms
import Derived.Lib.LaidTab
set_option linter.unusedSimpArgs false
set_option linter.unusedVariables false
namespace Go.Te
open Go Go.Sx Go.Proofs Go.Ar Go.RowKit
set_option maxRecDepth 100000
set_option maxHeartbeats 4000000
def wy (l : List zp) (i : Nat) : Int := bif Nat.beq l.length 5 && (l.take (i + 1)).all YJ then (zP (l.getD i []) : Nat) else 0
def Z6 (l : List zp) : Row := ⟨wy l 0, wy l 1, wy l 2, wy l 3, wy l 4⟩
theorem R6 {t : zp} (h : Xq t = true) : Z6 (zN 32 t) = We t := by
 unfold Xq ZA at h
 rw [Bool.and_eq_true] at h
 obtain ⟨h1, h2⟩ := h
 have ht : ∀ i, ((zN 32 t).take i).all YJ = true := fun i => by
  rw [List.all_eq_true] at h2 ⊢
  exact fun x hx => h2 x (List.mem_of_mem_take hx)
 unfold Z6 We wy
 simp only [h1, ht, Bool.and_self, cond_true]
noncomputable def P0 (G : List (Nat × Obj)) (l : List zp) : Tb := ((pd G).plus 119 V3).plusF 118 (RZ l)
theorem Yw.mono' {P : Program} {G : List (Nat × Obj)} {f : FuncId} {t : List AV → Option (List zS × TypeId × Nat × Nat × (Nat → Nat → AV))} (h : Yw P [] f t) : Yw P G f t := Yw.mono h
theorem sk {G : List (Nat × Obj)} (hG : xN G) (l : List zp) : zZ Tryz.prog (P0 G l) := zZ.plusF (zZ.plus (x7 hG.tab) (qf hG)) (Yw.mono' (pM l))
def Qf  : Z8 :=
 .two .auto (.two .auto (.two .auto (.two .auto (.two .auto (.two (.two .auto (.one (.unroll 6 .auto))) .auto)))))
theorem qM (w : zp) : (!atOk w || zl (Zh w) 0 || zl 9 (w.length : Int) || !Lib.itoa (Zh w) == w) = !YJ w := by
 cases hn : YJ w with
 | true =>
  obtain ⟨h1, h2⟩ := rb hn
  obtain ⟨h3, h4⟩ := xH.1 hn
  have hl : w.length ≤ 9 := by unfold YJ at hn; rw [Bool.and_eq_true, Nat.ble_eq] at hn; exact hn.2
  rw [h1, h2, ← h4, show zl ((zP w : Nat) : Int) 0 = false from Bool.eq_false_iff.2 fun e => by have := (zK _ _).1 e; omega,
   show zl 9 (w.length : Int) = false from Bool.eq_false_iff.2 fun e => by have := (zK _ _).1 e; omega, beq_self_eq_true]
  rfl
 | false =>
  rw [Bool.not_false]
  cases h : (!atOk w || zl (Zh w) 0 || zl 9 (w.length : Int) || !Lib.itoa (Zh w) == w) with
  | true => rfl
  | false =>
   exfalso
   simp only [Bool.or_eq_false_iff, Bool.not_eq_false'] at h
   obtain ⟨⟨⟨_, h2⟩, h3⟩, h4⟩ := h
   have g2 : ¬ Zh w < 0 := fun e => by rw [(zK _ _).2 e] at h2; cases h2
   have g3 : ¬ (9 : Int) < (w.length : Int) := fun e => by rw [(zK _ _).2 e] at h3; cases h3
   rw [pz (by omega) (by omega) (beq_iff_eq.1 h4)] at hn
   cases hn
theorem Uj (c : UInt8) : ∀ (l : List zp) (i : Nat), (l.getD i []).length ≤ (Xw c l).length
 | [], _ => by simp
 | [a], i => by cases i <;> simp [Xw]
 | a :: b :: r, i => by
  have ih := Uj c (b :: r)
  cases i with
  | zero => simp [Xw]
  | succ i =>
   have := ih i
   simp only [Xw, List.getD_cons_succ, List.length_append, List.length_cons] at this ⊢
   omega
theorem qS (c : UInt8) (s : zp) (i : Nat) : ((zN c s).getD i []).length ≤ s.length := by
 have := Uj c (zN c s) i
 rwa [wU] at this
theorem pS (G : List (Nat × Obj)) (s : zp) (l : List zp) (hl : s.length ≤ 100000) (hs : zN 32 s = l) :
 let q2 := (True ∧ 5 = 5 ∧ ((((kI ∧ iZ = Row.w (Z6 l)) ∧ kI ∧ iZ = Row.d (Z6 l)) ∧ kI ∧ iZ = Row.s (Z6 l)) ∧ kI ∧ iZ = Row.q (Z6 l)) ∧ kI ∧ iZ = Row.n (Z6 l)); let q1 := (j2 ∧ q2 ∧ false = ZA l); let q4 := (bif !atOk (gD l 0 []) then true else zl (Zh (gD l 0 [])) iZ); let q3 := (!zy false q4 || zy false q4); let q7 := (lZ (gD l 0 [])); let q6 := (bif bif !atOk (gD l 0 []) then
 true else zl (Zh (gD l 0 [])) iZ then true else zl (9 : Int) q7); let q5 := (!zy false q6 || zy false q6); let q9 := (bif !atOk (gD l 1 []) then true else zl (Zh (gD l 1 [])) iZ); let q8 := (!zy false q9 || zy false q9); let q12 := (lZ (gD l 1 [])); let q11 := (bif bif !atOk (gD l 1 []) then true else zl (Zh (gD l 1 [])) iZ then true else zl (9 : Int) q12); let q10 := (!zy false q11 || zy false q11); let q14 := (kI ∧ Zh (gD l 0 []) = Row.w (Z6 l)); let q13 := (True ∧ 5
 = 5 ∧ (((q14 ∧ kI ∧ iZ = Row.d (Z6 l)) ∧ kI ∧ iZ = Row.s (Z6 l)) ∧ kI ∧ iZ = Row.q (Z6 l)) ∧ kI ∧ iZ = Row.n (Z6 l)); let q16 := (bif !atOk (gD l 2 []) then true else zl (Zh (gD l 2 [])) iZ); let q15 := (!zy false q16 || zy false q16); let q19 := (lZ (gD l 2 [])); let q18 := (bif bif !atOk (gD l 2 []) then true else zl (Zh (gD l 2 [])) iZ then true else zl (9 : Int) q19); let q17 := (!zy false q18 || zy false q18);
 let q21 := (q14 ∧ kI ∧ Zh (gD l 1 []) = Row.d (Z6 l)); let q20 := (True ∧ 5 = 5 ∧ ((q21 ∧ kI ∧ iZ = Row.s (Z6 l)) ∧ kI ∧ iZ = Row.q (Z6 l)) ∧ kI ∧ iZ = Row.n (Z6 l)); let q23 := (bif !atOk (gD l 3 []) then true else zl (Zh (gD l 3 [])) iZ); let q22 := (!zy false q23 || zy false q23); let q26 := (lZ (gD l 3 [])); let q25 := (bif bif !atOk (gD l 3 []) then true else zl (Zh (gD l 3 [])) iZ then true else zl (9 : Int) q26);
 let q24 := (!zy false q25 || zy false q25); let q28 := (q21 ∧ kI ∧ Zh (gD l 2 []) = Row.s (Z6 l)); let q27 := (True ∧ 5 = 5 ∧ (q28 ∧ kI ∧ iZ = Row.q (Z6 l)) ∧ kI ∧ iZ = Row.n (Z6 l)); let q30 := (bif !atOk (gD l 4 []) then true else zl (Zh (gD l 4 [])) iZ); let q29 := (!zy false q30 || zy false q30); let q33 := (lZ (gD l 4 [])); let q32 := (bif bif !atOk (gD l 4 []) then true else zl (Zh (gD l 4 [])) iZ then true else zl (9 : Int) q33); let
 q31 := (!zy false q32 || zy false q32); let q35 := (q28 ∧ kI ∧ Zh (gD l 3 []) = Row.q (Z6 l)); let q34 := (True ∧ 5 = 5 ∧ q35 ∧ kI ∧ iZ = Row.n (Z6 l)); let q37 := (bif !atOk (gD l 5 []) then true else zl (Zh (gD l 5 [])) iZ); let q36 := (!zy false q37 || zy false q37); let q40 := (lZ (gD l 5 [])); let q39 := (bif bif !atOk (gD l 5 []) then true else zl (Zh (gD l 5 [])) iZ then true else zl (9 : Int) q40); let q38 := (!zy false q39 || zy false q39); let q41 :=
 (True ∧ 5 = 5 ∧ q35 ∧ kI ∧ Zh (gD l 4 []) = Row.n (Z6 l)); Zo [AV.str s] → lN s ≤ 100000 ∧ zN (32 : UInt8) s = l ∧ zz ((lZ l) != (↑5 : Int)) q1 (zz (zl iZ (lZ l)) (zz (DB.db (iZ ≤ iZ ∧ iZ < (lZ l))) (lN (gD l 0 []) ≤ 281474976710656 ∧ zz (!zy false !atOk (gD l 0 []) || zy false !atOk (gD l 0 [])) (zz (!!!atOk (gD l 0 []) || zy false !atOk (gD l 0 [])) (zz q3 (zz q3 (zz ((!!bif !atOk (List.getD
 l 0 []) then true else zl (Zh (gD l 0 [])) iZ) || zy false q4) (zz q5 ((zy false q6 = true → iN ≤ Zh (gD l 0 []) ∧ Zh (gD l 0 []) ≤ iX) ∧ zz q5 (zz q5 (zz ((!!bif bif !atOk (gD l 0 []) then true else zl (Zh (gD l 0 [])) iZ then true else zl (9 : Int) q7) || zy false q6) (zz (bif bif bif !atOk (gD l 0 []) then true else zl (Zh (gD l 0 [])) iZ then true else zl (9 : Int) q7 then true else !Lib.itoa (Zh (gD l 0 [])) == gD l 0
 []) q1 (zz (zl (iZ + iO) (lZ l)) (zz (DB.db (iZ ≤ iZ + iO ∧ iZ + iO < (lZ l))) (lN (gD l 1 []) ≤ 281474976710656 ∧ zz (!zy false !atOk (gD l 1 []) || zy false !atOk (gD l 1 [])) (zz (!!!atOk (gD l 1 []) || zy false !atOk (gD l 1 [])) (zz q8 (zz q8 (zz ((!!bif !atOk (gD l 1 []) then true else zl (Zh (gD l 1 [])) iZ) || zy false q9) (zz q10 ((zy false q11 = true → iN ≤ Zh
 (gD l 1 []) ∧ Zh (gD l 1 []) ≤ iX) ∧ zz q10 (zz q10 (zz ((!!bif bif !atOk (gD l 1 []) then true else zl (Zh (gD l 1 [])) iZ then true else zl (9 : Int) q12) || zy false q11) (zz (bif bif bif !atOk (gD l 1 []) then true else zl (Zh (gD l 1 [])) iZ then true else zl (9 : Int) q12 then true else !Lib.itoa (Zh (gD l 1 [])) == gD l 1 []) (j2 ∧ q13 ∧ false = ZA l) (zz (zl (iZ + iO + iO) (lZ l)) (zz
 (DB.db (iZ ≤ iZ + iO + iO ∧ iZ + iO + iO < (lZ l))) (lN (gD l 2 []) ≤ 281474976710656 ∧ zz (!zy false !atOk (gD l 2 []) || zy false !atOk (gD l 2 [])) (zz (!!!atOk (gD l 2 []) || zy false !atOk (gD l 2 [])) (zz q15 (zz q15 (zz ((!!bif !atOk (gD l 2 []) then true else zl (Zh (gD l 2 [])) iZ) || zy false q16) (zz q17 ((zy false q18 = true → iN ≤ Zh (gD l 2 []) ∧ Zh (gD l 2 []) ≤
 iX) ∧ zz q17 (zz q17 (zz ((!!bif bif !atOk (gD l 2 []) then true else zl (Zh (gD l 2 [])) iZ then true else zl (9 : Int) q19) || zy false q18) (zz (bif bif bif !atOk (gD l 2 []) then true else zl (Zh (gD l 2 [])) iZ then true else zl (9 : Int) q19 then true else !Lib.itoa (Zh (gD l 2 [])) == gD l 2 []) (j2 ∧ q20 ∧ false = ZA l) (zz (zl (iZ + iO + iO + iO) (lZ l)) (zz (DB.db (iZ ≤ iZ + (1
 : Int) + iO + iO ∧ iZ + iO + iO + iO < (lZ l))) (lN (gD l 3 []) ≤ 281474976710656 ∧ zz (!zy false !atOk (gD l 3 []) || zy false !atOk (gD l 3 [])) (zz (!!!atOk (gD l 3 []) || zy false !atOk (gD l 3 [])) (zz q22 (zz q22 (zz ((!!bif !atOk (gD l 3 []) then true else zl (Zh (gD l 3 [])) iZ) || zy false q23) (zz q24 ((zy false q25 = true → iN ≤ Zh (gD l 3 []) ∧ Zh (gD l 3 []) ≤ (9223372036854775807 :
 Int)) ∧ zz q24 (zz q24 (zz ((!!bif bif !atOk (gD l 3 []) then true else zl (Zh (gD l 3 [])) iZ then true else zl (9 : Int) q26) || zy false q25) (zz (bif bif bif !atOk (gD l 3 []) then true else zl (Zh (gD l 3 [])) iZ then true else zl (9 : Int) q26 then true else !Lib.itoa (Zh (gD l 3 [])) == gD l 3 []) (j2 ∧ q27 ∧ false = ZA l) (zz (zl (iZ + iO + iO + iO + iO) (lZ l)) (zz (DB.db (iZ ≤ iZ + iO + (1
 : Int) + iO + iO ∧ iZ + iO + iO + iO + iO < (lZ l))) (lN (gD l 4 []) ≤ 281474976710656 ∧ zz (!zy false !atOk (gD l 4 []) || zy false !atOk (gD l 4 [])) (zz (!!!atOk (gD l 4 []) || zy false !atOk (gD l 4 [])) (zz q29 (zz q29 (zz ((!!bif !atOk (gD l 4 []) then true else zl (Zh (gD l 4 [])) iZ) || zy false q30) (zz q31 ((zy false q32 = true → iN ≤ Zh (gD l 4 []) ∧ Zh (gD l 4 []) ≤
 iX) ∧ zz q31 (zz q31 (zz ((!!bif bif !atOk (gD l 4 []) then true else zl (Zh (gD l 4 [])) iZ then true else zl (9 : Int) q33) || zy false q32) (zz (bif bif bif !atOk (gD l 4 []) then true else zl (Zh (gD l 4 [])) iZ then true else zl (9 : Int) q33 then true else !Lib.itoa (Zh (gD l 4 [])) == gD l 4 []) (j2 ∧ q34 ∧ false = ZA l) (zz (zl (iZ + iO + iO + iO + iO + iO) (lZ l)) (zz (DB.db ((0
 : Int) ≤ iZ + iO + iO + iO + iO + iO ∧ iZ + iO + iO + iO + iO + iO < (lZ l))) (lN (gD l 5 []) ≤ 281474976710656 ∧ zz (!zy false !atOk (gD l 5 []) || zy false !atOk (gD l 5 [])) (zz (!!!atOk (gD l 5 []) || zy false !atOk (gD l 5 [])) (zz q36 (zz q36 (zz ((!!bif !atOk (gD l 5 []) then true else zl (Zh (gD l 5 [])) iZ) || zy false q37) (zz q38 ((zy false q39 = true → iN ≤
 Zh (gD l 5 []) ∧ Zh (gD l 5 []) ≤ iX) ∧ zz q38 (zz q38 (zz ((!!bif bif !atOk (gD l 5 []) then true else zl (Zh (gD l 5 [])) iZ then true else zl (9 : Int) q40) || zy false q39) (zz (bif bif bif !atOk (gD l 5 []) then true else zl (Zh (gD l 5 [])) iZ then true else zl (9 : Int) q40 then true else !Lib.itoa (Zh (gD l 5 [])) == gD l 5 []) (j2 ∧ q41 ∧ false = ZA l) False) False) False) False) False) False) False) False) False) False) False) (2
 = lN [AV.junk, AV.junk] ∧ q41 ∧ true = ZA l))) False) False) False) False) False) False) False) False) False) False) (j2 ∧ q34 ∧ true = ZA l))) False) False) False) False) False) False) False) False) False) False) (j2 ∧ q27 ∧ true = ZA l))) False) False) False) False) False) False) False) False) False) False) (j2 ∧ q20 ∧ true = ZA l))) False) False) False) False) False) False) False) False) False) False) (j2 ∧ q13 ∧ true = ZA l))) False) False)
 False) False) False) False) False) False) False) False) (j2 ∧ q2 ∧ true = ZA l)) := by
 delta kI j2 lZ lN gD iZ iO iX iN
 dsimp only
 intro hb
 simp only [↓XG, ↓xJ, row_one]
 simp only [sS, zJ, zm, zM, zQ, yn, ZQ, X4, yO, w8, yA, wC, yb, yB, Zj, x8, qM]
 have hle : ∀ i, (l.getD i []).length ≤ 281474976710656 := fun i => by
  have := qS 32 s i
  rw [hs] at this
  omega
 have hin : ∀ i, -9223372036854775808 ≤ Zh (l.getD i []) ∧ Zh (l.getD i []) ≤ 9223372036854775807 := fun i => pQ _
 refine ⟨hl, hs, fun h5 => ?_, fun h5 => ?_⟩
 ·have h6 : Nat.beq l.length 5 = false := by
   cases hc : Nat.beq l.length 5 with
   | false => rfl
   | true => have := Nat.eq_of_beq_eq_true hc; omega
  simp [Z6, wy, ZA, h6]
 ·have key : ∀ w, YJ w = true → Zh w = (zP w : Nat) := fun w h => (rb h).2
  have m : ∀ w, YJ w = true → ((zP w : Nat) : Int) ≤ 9223372036854775807 := fun w h => by
   have := yH.1 (xH.1 h).1
   omega
  match l, h5 with
  | [a, b, c, d, e], _ =>
   have l0 := hle 0; have l1 := hle 1; have l2 := hle 2; have l3 := hle 3; have l4 := hle 4
   have i0 := hin 0; have i1 := hin 1; have i2 := hin 2; have i3 := hin 3; have i4 := hin 4
   clear hle hin hb hs
   simp only [List.getD_cons_zero, List.getD_cons_succ] at l0 l1 l2 l3 l4 i0 i1 i2 i3 i4
   have hz : ∀ n : Nat, Nat.blt 0 (n + 1) = true := fun n => rfl
   cases ha : YJ a with
   | false => simp [Z6, wy, ZA, ha, hz, zz, l0, i0]
   | true =>
   cases hb : YJ b with
   | false => simp [Z6, wy, ZA, ha, hb, key _ ha, m _ ha, hz, zz, l0, i0, l1, i1]
   | true =>
   cases hc : YJ c with
   | false => simp [Z6, wy, ZA, ha, hb, hc, key _ ha, m _ ha, key _ hb, m _ hb, hz, zz, l0, i0, l1, i1, l2, i2]
   | true =>
   cases hd : YJ d with
   | false => simp [Z6, wy, ZA, ha, hb, hc, hd, key _ ha, m _ ha, key _ hb, m _ hb, key _ hc, m _ hc, hz, zz, l0, i0, l1, i1, l2, i2, l3, i3]
   | true =>
   cases he : YJ e with
   | false => simp [Z6, wy, ZA, ha, hb, hc, hd, he, key _ ha, m _ ha, key _ hb, m _ hb, key _ hc, m _ hc, key _ hd, m _ hd, hz, zz, l0, i0, l1, i1, l2, i2, l3, i3, l4, i4]
   | true => simp [Z6, wy, ZA, ha, hb, hc, hd, he, key _ ha, m _ ha, key _ hb, m _ hb, key _ hc, m _ hc, key _ hd, m _ hd, key _ he, m _ he, hz, zz, l0, i0, l1, i1, l2, i2, l3, i3, l4, i4]
def ry : List AV → Option (List zS × AV)
 | [.str s] => some ([.p (s.length ≤ 100000)], .tup 2 (zU [wV (Z6 (zN 32 s)), .b (Xq s)]))
 | _ => none
theorem pc {G : List (Nat × Obj)} (hG : xN G) : zn Tryz.prog G 68 ry := by
 intro xs ps r h hp
 unfold ry at h
 split at h
 ·rename_i s
  cases h
  have q1 : s.length ≤ 100000 := hp (.p (s.length ≤ 100000)) (by simp)
  exact zt mixed (sk hG (zN 32 s)) (Eq.mp (by kernel_rfl) (pS G s (zN 32 s) q1 rfl) : uj Tryz.prog (P0 G (zN 32 s)) 68 Qf [.str s] (.tup 2 (zU [wV (Z6 (zN 32 s)), .b (Xq s)])))
 ·cases h
end Go.Te

namespace Go.Te
open Go Go.Sx Go.Proofs Go.Ar Go.RowKit
set_option maxRecDepth 100000
set_option maxHeartbeats 4000000
structure ZX where
 s : zp
 out : List Row
def qB (l : List Row) : OB := .arr 38 5 l.length fun i j => zv.enc (l.getD i zv.dflt) j
structure Vb (s : zp) (z : ZX) : Prop where
 l : z.s.length + z.out.length ≤ s.length
 p : xk s = (xk z.s).map (z.out ++ ·)
noncomputable def P8 (G : List (Nat × Obj)) : Tb := (((((SJ G).plus 24 YM).plus 67 Sp).plus 68 ry).plus 116 SK).body Tryz.prog [(66, .auto)]
theorem T7 {G : List (Nat × Obj)} (hG : xN G) : zZ Tryz.prog (P8 G) := zZ.body mixed (zZ.plus (zZ.plus (zZ.plus (zZ.plus zR (zn.mono xB)) (zn.mono Pz)) (pc hG)) (zn.mono pK)) _
def pN (s : zp) : Z8 := .one (.loop ZX (fun σ z => [(0, σ.tm 0), (1, σ.tm 1)]) (fun σ z => [(2, .box 22 1 (zU [.ns σ.nb 0 z.out.length])), (3, .box 9 1 (zU [.str z.s])), (σ.nb, qB z.out)]) 1 (fun _ z => Vb s z) (fun _ z => z.s.length) .auto)
def Ps (s : zp) : Z8 := .two .auto (.two .auto (.two .auto (.two (.two .auto (.one (.range (pN s) .auto .auto))) .auto)))
theorem ud {s : zp} (h : Zn s ≠ 0) : (yS s).length = 0 := by
 unfold yS
 rw [beq_eq_false_iff_ne.2 h]
 rfl
theorem W3 {s : zp} (h : 65536 < (s.length : Int)) : Zn s = 4 := by
 unfold Zn
 rw [(zK _ _).2 h]
 rfl
theorem Ti {s : zp} (h : (s.length : Int) ≤ 65536) : Zn s = match xk s with | none => 3 | some l => zj l := by
 unfold Zn
 rw [show zl 65536 (s.length : Int) = false from Bool.eq_false_iff.2 fun e => by have := (zK _ _).1 e; omega]
 rfl
theorem Vb.bad {s : zp} {z : ZX} (h : Vb s z) (hl : (s.length : Int) ≤ 65536) (h0 : z.s ≠ []) (hr : Z0 z.s = none) : (yS s).length = 0 ∧ 3 = Zn s := by
 have e : Zn s = 3 := by rw [Ti hl, h.p, RX hr h0]; rfl
 exact ⟨ud (by rw [e]; decide), e.symm⟩
theorem Vb.more {s a b : zp} {out : List Row} (h : Vb s ⟨a ++ 10 :: b, out⟩) (ha : (10 : UInt8) ∉ a) (hr : Xq a = true) : Vb s ⟨b, out ++ [We a]⟩ := by
 have hl := h.l
 have hp := h.p
 have e : Z0 (a ++ 10 :: b) = some (We a, b) := by rw [TO ha, hr]; rfl
 refine ⟨?_, ?_⟩
 ·simp only [List.length_append, List.length_cons, List.length_nil] at hl ⊢
  omega
 ·simp only at hp ⊢
  rw [hp, u4 e, Option.map_map]
  congr 1
  funext l
  simp
theorem Vb.end_ {s : zp} {out : List Row} (h : Vb s ⟨[], out⟩) (hl : (s.length : Int) ≤ 65536) : Zn s = zj out ∧ (zj out = 0 → yS s = out) := by
 have hp := h.p
 simp only [SN, Option.map_some, List.append_nil] at hp
 have e : Zn s = zj out := by rw [Ti hl, hp]
 refine ⟨e, fun h0 => ?_⟩
 unfold yS
 rw [e, h0, hp]
 rfl
theorem Pm : Nat.toUInt8 10 = (10 : UInt8) := rfl
theorem p8 (G : List (Nat × Obj)) (s : zp) :
 let q1 := (True ∧ Value.slice (WU Addr) 0 0 = Value.slice (WU Addr) 0 0 ∧ lN (yS s) = 0); let q2 := ((22 = 22 ∧ 1 = 1 ∧ Value.slice (WU Addr) 0 0 = Array.getD (Value.cells (Value.slice (WU Addr) 0 0)) (nat_lit 0) undef) ∧ 28 = 28 ∧ 1 = 1 ∧ kI ∧ iZ = iZ); let q9 := (j2 ∧ q1 ∧ kI ∧ (3 : Int) = Zn s); let q11 := (Value.agg #[Value.int .i64 iZ, Value.int .i64 iZ, Value.int .i64 iZ, Value.int .i64 iZ, Value.int .i64 iZ]); Zo [AV.str s] → zz (zl (65536 : Int)
 (lZ s)) (j2 ∧ q1 ∧ kI ∧ (4 : Int) = Zn s) ((∃ (z : ZX), (Vb s z ∧ nat_lit 4 = 4 ∧ nat_lit 3 = 3 ∧ 0 = 0) ∧ (((q2 ∧ (22 : TypeId) = 22 ∧ 1 = 1 ∧ some (WU Nat) = some (WU Nat) ∧ 0 = 0 ∧ lN (ZX.out z) = 0) ∧ (9 : TypeId) = 9 ∧ 1 = 1 ∧ s = ZX.s z) ∧ LoopState.ready = LoopState.ready ∧ WU Code = WU Code) ∧ lN (ZX.out z) = 0) ∧ ∀ (z : ZX), let q4 := (Lib.indexByte (ZX.s z) (Nat.toUInt8 10) + iO); let q3 := (DB.db (ZG .i64 q4)); let q5 := (DB.db (iZ ≤ Lib.indexByte (ZX.s z) (Nat.toUInt8 10)
 + iO ∧ Lib.indexByte (ZX.s z) (Nat.toUInt8 10) + iO ≤ (lZ (ZX.s z)))); let q7 := (Int.toNat q4); let q6 := (List.take q7 (ZX.s z)); let q8 := (wQ q6); let q10 := (DB.db ((lN (ZX.out z) + 1) * 40 ≤ 140737488355328)); let q12 := (AV.xl false 5 (lN (ZX.out z)) fun i j => zv.enc (gD (ZX.out z) (0 + i) zv.dflt) j); let q13 := (rowsOf q12); Vb s z → zz (zl iZ (lZ (ZX.s z))) (zz (leB iZ (Lib.indexByte (ZX.s z) (Nat.toUInt8 10))) (zz q3 (zz q5 (zz q3 (zz q5 (lN q6 ≤
 100000 ∧ lN q8 ≤ 100000 ∧ zz (!zy false !y8 q6 || zy false !y8 q6) (zz (!!!y8 q6 || zy false !y8 q6) (zz (bif !y8 q6 then true else !Xq q8) q9 (zz q10 (∃ (z' : ZX), ((Vb s z' ∧ lN (ZX.s z') < lN (ZX.s z)) ∧ nat_lit 4 = 4 ∧ nat_lit 3 = 3 ∧ 0 = 0) ∧ (((q2 ∧ 22 = 22 ∧ 1 = 1 ∧ nat_lit 5 = 5 ∧ 0 = 0 ∧ lN (ZX.out z') = lN (ZX.out z) + 1) ∧ 9 = 9 ∧ 1 = 1 ∧ List.drop q7 (ZX.s z) = ZX.s z') ∧ LoopState.ready = LoopState.ready ∧ WU Code = WU Code) ∧ (38 : TypeId) = 38 ∧ 5 = 5 ∧ lN (ZX.out z') = List.length
 (ZX.out z) + 1 ∧ ∀ (i j : Nat), i < lN (ZX.out z) + 1 → j < 5 → zc (if i < lN (ZX.out z) then zv.enc (gD (ZX.out z) i zv.dflt) j else Sx.rowAt [fun (i : Nat) => if 0 ≤ 0 + i ∧ 0 + i < 5 then zv.enc (Z6 (zN (32 : UInt8) q8)) (0 + i - 0) else Ym q11 (0 + i)] (i - lN (ZX.out z)) j) (zv.enc (gD (ZX.out z') i zv.dflt) j)) False)) False) False) False) False) False) False) (lN (ZX.s z) ≤ 100000 ∧ lN (wQ (ZX.s z)) ≤ 100000 ∧ zz (!zy false !y8 (ZX.s z) || zy false !y8 (ZX.s z)) (zz (!!!y8 (ZX.s z) ||
 zy false !y8 (ZX.s z)) (zz (bif !y8 (ZX.s z) then true else !Xq (wQ (ZX.s z))) q9 (zz q10 (∃ (z' : ZX), ((Vb s z' ∧ lN (ZX.s z') < lN (ZX.s z)) ∧ nat_lit 4 = 4 ∧ nat_lit 3 = 3 ∧ 0 = 0) ∧ (((q2 ∧ 22 = 22 ∧ 1 = 1 ∧ nat_lit 5 = 5 ∧ 0 = 0 ∧ lN (ZX.out z') = lN (ZX.out z) + 1) ∧ 9 = 9 ∧ 1 = 1 ∧ Array.toList (ByteArray.data (ByteArray.mk #[])) = ZX.s z') ∧ LoopState.ready = LoopState.ready ∧ WU Code = WU Code) ∧ (38 : TypeId) = 38 ∧ 5 = 5 ∧ lN (ZX.out z') = lN (ZX.out z) + 1 ∧ ∀ (i j : Nat), i < lN (ZX.out
 z) + 1 → j < 5 → zc (if i < lN (ZX.out z) then zv.enc (gD (ZX.out z) i zv.dflt) j else Sx.rowAt [fun (i : Nat) => if 0 ≤ 0 + i ∧ 0 + i < 5 then zv.enc (Z6 (zN (32 : UInt8) (wQ (ZX.s z)))) (0 + i - 0) else Ym q11 (0 + i)] (i - lN (ZX.out z)) j) (zv.enc (gD (ZX.out z') i zv.dflt) j)) False)) False) False)) (zz (ZV Row q12) (zz (zj q13 != iZ) (j2 ∧ q1 ∧ kI ∧ zj q13 = Zn s) (j2 ∧ (True ∧ zc q12 (AV.xl false 5 (lN (yS s)) fun i j =>
 zv.enc (gD (yS s) i zv.dflt) j)) ∧ kI ∧ iZ = Zn s)) False)) := by
 delta kI j2 lZ lN gD iZ iO
 dsimp only
 intro hb
 have e2 : (zv.dflt : Row) = r0 := rfl
 simp only [↓XG, ↓xJ, row_one]
 simp only [sS, zJ, zm, zM, zQ, yn, ZQ, X4, yO, w8, yA, wC, yb, yB, Zj, e2, Pm]
 refine ⟨fun h => ?_, fun hl => ⟨⟨⟨s, []⟩, ⟨Nat.le_refl _, ?_⟩, ⟨⟨rfl, rfl⟩, rfl⟩, rfl⟩, fun z hz => ⟨fun h0 => ⟨fun hi => ?_, fun hi => ?_⟩, fun h0 => ?_⟩⟩⟩
 ·have e := W3 h
  exact ⟨rfl, ud (by rw [e]; decide), e.symm⟩
 ·cases xk s <;> rfl
 ·obtain ⟨zs, out⟩ := z
  simp only at h0 hi ⊢
  rcases vp 10 zs with ⟨a, b, rfl, ha, e⟩ | ⟨_, h1⟩
  ·have hz1 := hz.l
   simp only [List.length_append, List.length_cons] at hz1
   have e3 : ((a.length : Int) + 1).toNat = a.length + 1 := by omega
   have e4 : List.take (a.length + 1) (a ++ 10 :: b) = a ++ [10] := by rw [List.take_append, List.take_of_length_le (by omega)]; simp
   have e5 : List.drop (a.length + 1) (a ++ 10 :: b) = b := by rw [← List.drop_drop, List.drop_left]; rfl
   obtain ⟨s1, s2⟩ := TT a
   rw [e, e3, e4, e5, s1, s2]
   simp only [List.length_append, List.length_cons, List.length_nil, Bool.not_true, Bool.false_or]
   refine ⟨⟨by omega, by omega⟩, ⟨by omega, by omega⟩, ⟨by omega, by omega⟩, ⟨by omega, by omega⟩, by omega, by omega, zT.2 ⟨fun hr => ?_, fun hr => ?_⟩⟩
   ·have hr : Xq a = false := by simpa using hr
    exact ⟨trivial, hz.bad hl (by simp) (by rw [TO ha, hr]; rfl)⟩
   ·have hr : Xq a = true := by simpa using hr
    rw [R6 hr]
    refine ⟨by omega, ⟨b, out ++ [We a]⟩, ⟨hz.more ha hr, by simp only; omega⟩, ⟨⟨rfl, by simp⟩, rfl⟩, by simp, fun i j hi hj => ?_⟩
    simp only
    by_cases h3 : i < out.length
    ·rw [if_pos h3, List.getD_eq_getElem?_getD, List.getD_eq_getElem?_getD, List.getElem?_append_left h3]
     exact zY _
    ·rw [if_neg h3, if_pos hj, List.getD_eq_getElem?_getD, List.getElem?_append_right (by omega), show i - out.length = 0 by omega]
     exact zY _
  ·omega
 ·obtain ⟨zs, out⟩ := z
  simp only at h0 hi ⊢
  rcases vp 10 zs with ⟨a, b, rfl, ha, e⟩ | ⟨h1, _⟩
  ·omega
  ·have hz1 := hz.l
   simp only at hz1
   obtain ⟨s1, s2⟩ := py h1
   rw [s1, s2]
   refine ⟨by omega, by omega, zT.2 ⟨fun _ => ⟨rfl, hz.bad hl (fun e => by simp only at e; subst e; simp at h0) (qk h1)⟩, fun h => by cases h⟩⟩
 ·obtain ⟨zs, out⟩ := z
  simp only at h0 ⊢
  obtain rfl : zs = [] := List.eq_nil_of_length_eq_zero (by omega)
  obtain ⟨e, e1⟩ := hz.end_ hl
  refine ⟨fun h => ⟨rfl, ud (by rw [e]; exact h), e.symm⟩, fun h => ⟨rfl, ?_, by rw [e, h]⟩⟩
  rw [e1 h]
  exact zY _
def qK : List AV → Option (List zS × AV)
 | [.str s] => some ([], .tup 2 (zU [yI (yS s), .i (Zn s)]))
 | _ => none
theorem PU {G : List (Nat × Obj)} (hG : xN G) : zn Tryz.prog G 22 qK := by
 intro xs ps r h hp
 unfold qK at h
 split at h
 ·rename_i s
  cases h
  exact zt mixed (T7 hG) (Eq.mp (by kernel_rfl) (p8 G s) : uj Tryz.prog (P8 G) 22 (Ps s) [.str s] (.tup 2 (zU [yI (yS s), .i (Zn s)])))
 ·cases h
end Go.Te

namespace Go.Te
open Go Go.Sx Go.Proofs Go.Ar
set_option maxRecDepth 100000
set_option maxHeartbeats 4000000
end Go.Te

namespace Go.Te
open Go Go.Sx Go.Proofs Go.Ar Go.RowKit
set_option maxRecDepth 100000
set_option maxHeartbeats 4000000
def QK (a b : List Row) : Z8 :=
 .two .auto (.two .auto (.two (.two .auto (.one (.loop Nat (fun σ z => [(0, σ.tm 0), (1, σ.tm 1), (12, σ.tm 12), (13, .i z)]) (fun σ z => []) 0 (fun σ z => z ≤ a.length ∧ ∀ i, i < z → a.getD i r0 = b.getD i r0) (fun σ z => a.length - z) .auto))) .auto))
theorem Qc (a b : List Row) :
 let q1 := (AV.xl false 5 (lN a) fun i j => zv.enc (gD a i zv.dflt) j); let q2 := (AV.xl false 5 (lN b) fun i j => zv.enc (gD b i zv.dflt) j); let q3 := (kI ∧ (lZ a) = (lZ a)); Zo [AV.xl false 5 (lN a) fun i j => zv.enc (gD a i zv.dflt) j, AV.xl false 5 (lN b) fun i j => zv.enc (gD b i zv.dflt) j] → zz ((lZ a) != (lZ b)) (false = (a == b)) ((∃ (z : Nat), ((z ≤ lN a ∧ ∀ (i : Nat), i < z → gD a i r0 = gD b i r0)
 ∧ zc q1 q1 ∧ zc q2 q2 ∧ q3 ∧ kI ∧ iZ = (↑z : Int)) ∧ True) ∧ ∀ (z : Nat), let q4 := (gD a (Int.toNat (↑z : Int)) zv.dflt); let q5 := (gD b (Int.toNat (↑z : Int)) zv.dflt); (z ≤ lN a ∧ ∀ (i : Nat), i < z → gD a i r0 = gD b i r0) → zz (zl (↑z : Int) (lZ a)) (zz (DB.db (iZ ≤ (↑z : Int) ∧ (↑z : Int) < (lZ a))) (zz (DB.db (iZ ≤ (↑z : Int) ∧ (↑z : Int) < (lZ b))) (zz (!(Row.w q4 == Row.w q5 && (Row.d q4 == Row.d q5 && (Row.s q4 == Row.s q5 && (Row.q q4
 == Row.q q5 && (Row.n q4 == Row.n q5 && true)))))) (false = (a == b)) (zz (DB.db (ZG .i64 ((↑z : Int) + iO))) (∃ (z' : Nat), (((z' ≤ lN a ∧ ∀ (i : Nat), i < z' → gD a i r0 = gD b i r0) ∧ lN a - z' < lN a - z) ∧ zc q1 q1 ∧ zc q2 q2 ∧ q3 ∧ kI ∧ (↑z : Int) + iO = (↑z' : Int)) ∧ True) False)) False) False) (true = (a == b))) := by
 delta kI lZ lN gD iZ iO
 dsimp only
 intro hb
 have e2 : (zv.dflt : Row) = r0 := rfl
 simp only [sS, zJ, zm, zM, zQ, yn, ZQ, X4, yO, w8, yA, wC, yb, yB, Zj, e2]
 have same : ∀ z, ((a.getD z r0).w == (b.getD z r0).w && ((a.getD z r0).d == (b.getD z r0).d && ((a.getD z r0).s == (b.getD z r0).s && ((a.getD z r0).q == (b.getD z r0).q && ((a.getD z r0).n == (b.getD z r0).n && true))))) = true ↔ a.getD z r0 = b.getD z r0 := fun z => by
  simp only [Bool.and_eq_true, beq_iff_eq, and_true]
  constructor
  ·rintro ⟨h1, h2, h3, h4, h5⟩
   cases ha : a.getD z r0 with | mk w d s q n =>
   cases hb : b.getD z r0 with | mk w' d' s' q' n' =>
   rw [ha, hb] at h1 h2 h3 h4 h5
   simp only at h1 h2 h3 h4 h5
   subst h1 h2 h3 h4 h5
   rfl
  ·intro h; rw [h]; exact ⟨rfl, rfl, rfl, rfl, rfl⟩
 refine ⟨fun h => (beq_eq_false_iff_ne.2 fun e => h (by rw [e])).symm, fun h => ⟨⟨0, ⟨Nat.zero_le _, fun i hi => absurd hi (Nat.not_lt_zero _)⟩, rfl⟩, fun z ⟨z1, z2⟩ => ⟨fun hz => ⟨⟨by omega, hz⟩, ⟨by omega, by omega⟩, zT.2 ⟨fun h3 => ?_, fun h3 => ?_⟩⟩, fun hz => ?_⟩⟩⟩
 ·refine (beq_eq_false_iff_ne.2 fun e => ?_).symm
  rw [(same z).2 (by rw [e])] at h3
  cases h3
 ·have h5 : a.getD z r0 = b.getD z r0 := (same z).1 (by simpa using h3)
  have h4 : a.length ≤ 9223372036854775807 := hb.1.1
  refine ⟨by simp only [ZG]; omega, z + 1, ⟨⟨by omega, fun i hi => ?_⟩, by omega⟩, by omega⟩
  by_cases e : i = z
  ·rw [e]; exact h5
  ·exact z2 i (by omega)
 ·refine (beq_iff_eq.2 (List.ext_getElem (by omega) fun i h1 h2 => ?_)).symm
  have := z2 i (by omega)
  rw [List.getD_eq_getElem?_getD, List.getD_eq_getElem?_getD, List.getElem?_eq_getElem h1, List.getElem?_eq_getElem h2] at this
  exact this
def SC : List AV → Option (List zS × AV)
 | [x, y] => some ([.b (ZV Row x), .b (ZV Row y)], .b (rowsOf x == rowsOf y))
 | _ => none
theorem p9 : zn Tryz.prog [] 25 SC := by
 intro xs ps r h hp
 unfold SC at h
 split at h
 ·rename_i x y
  cases h
  obtain ⟨q0, q1, -⟩ := Yc hp
  exact weaken (ys := [yI (rowsOf x), yI (rowsOf y)]) ⟨zH q0, zH q1, trivial⟩ (zt (T := T0) (an := QK (rowsOf x) (rowsOf y)) mixed zR (Eq.mp (by kernel_rfl) (Qc (rowsOf x) (rowsOf y))))
 ·cases h
noncomputable def P7 (G : List (Nat × Obj)) : Tb := (((((((SJ G).plus 20 YT).plus 24 YM).plus 22 qK).plus 23 Rc).plus 26 Tf).plus 25 SC).plus 13 (Wz [] (.b true))
theorem so {G : List (Nat × Obj)} (hG : xN G) : zZ Tryz.prog (P7 G) :=
 zZ.plus (zZ.plus (zZ.plus (zZ.plus (zZ.plus (zZ.plus (zZ.plus zR (zn.mono xC)) (zn.mono xB)) (PU hG)) (p6 hG.tab)) (zn.mono QZ)) (zn.mono p9)) (Xn (Td hG.tab))
theorem vC : ∀ {l : List Row}, (∀ x ∈ l, y2 x = true) → (wB l).count 10 = l.length
 | [], _ => rfl
 | x :: r, h => by
  have hx := TJ (h x List.mem_cons_self)
  have e : xT x = Wi x ++ [10] := by
   have := uU x []
   rwa [List.append_nil] at this
  rw [Yt, List.count_append, vC fun y hy => h y (List.mem_cons_of_mem _ hy), e, List.count_append, List.count_eq_zero.2 hx]
  simp
  omega
theorem qm {l : List Row} (h : zj l = 0) (h12 : l.length ≤ 12) : (wB l).length ≤ 600 := by
 have := (Wy (tE h) l.length (Nat.le_refl _)).1
 rw [WW] at this
 omega
theorem Rs {l : List Row} (h : zj l = 0) (hl : (wB l).length ≤ 65536) : yp l = 0 ∧ y9 l = wB l := by
 have e : yp l = 0 := by
  unfold yp
  rw [h, show zl 65536 (wB l).length = false from Bool.eq_false_iff.2 fun e => by have := (zK _ _).1 e; omega]
  rfl
 exact ⟨e, by unfold y9; rw [e]; rfl⟩
theorem tY {s : zp} (h : Zn s = 0) : yp (yS s) = 0 ∧ y9 (yS s) = s ∧ zj (yS s) = 0 := by
 have hl : ¬ 65536 < (s.length : Int) := fun e => by rw [W3 e] at h; cases h
 have e := Ti (s := s) (by omega)
 rw [h] at e
 cases hp : xk s with
 | none => rw [hp] at e; cases e
 | some l =>
  rw [hp] at e
  have e : zj l = 0 := e.symm
  have hv : yS s = l := by unfold yS; rw [h, hp]; rfl
  obtain ⟨_, h2⟩ := yJ.1 hp
  rw [hv]
  obtain ⟨p1, p2⟩ := Rs e (by rw [← h2]; omega)
  exact ⟨p1, p2.trans h2.symm, e⟩
theorem UA {l : List Row} (h : zj l = 0) (h12 : l.length ≤ 12) : yp l = 0 ∧ Zn (y9 l) = 0 ∧ yS (y9 l) = l ∧ (y9 l).count 10 = l.length := by
 have hl := qm h h12
 obtain ⟨p1, p2⟩ := Rs h (by omega)
 have hr := TK h
 have hp : xk (wB l) = some l := yJ.2 ⟨hr, rfl⟩
 have e : Zn (wB l) = 0 := by rw [Ti (by omega), hp]; exact h
 rw [p2]
 refine ⟨p1, e, ?_, vC hr⟩
 unfold yS
 rw [e, hp]
 rfl
theorem QM (G : List (Nat × Obj)) (l : List Row) (s : zp) :
 let q2 := (zl (12 : Int) (lZ l)); let q1 := (!zy false q2 || zy false q2); let q3 := (AV.xl false 5 (lN (yS s)) fun i j => zv.enc (gD (yS s) i zv.dflt) j); let q6 := (rowsOf q3); let q5 := (yp q6 != iZ); let q4 := (!zy false q5 || zy false q5); let q8 := (bif yp q6 != iZ then true else !y9 q6 == s); let q7 := (!zy false q8 || zy false q8); let q11 := (AV.xl false 5 (lN l) fun i j => zv.enc (gD l i zv.dflt) j); let q10 := (ZV Row q11); let q12 := (rowsOf q11); let q13 := (yp q12 == iZ); let q16 :=
 (y9 q12); let q15 := (bif yp q12 == iZ then Zn q16 == iZ else false); let q14 := (!zy true q15 || zy true q15); let q18 := (yS q16); let q17 := (AV.xl false 5 (lN q18) fun i j => zv.enc (gD q18 i zv.dflt) j); let q20 := (bif bif yp q12 == iZ then Zn q16 == iZ else false then rowsOf q17 == rowsOf q11 else false); let q19 := (!zy true q20 || zy true q20); let q22 := (↑(List.count (10 : UInt8) q16) : Int); let q21 := (bif bif bif yp q12 == iZ then Zn q16 == iZ else false then rowsOf q17 == rowsOf q11 else false then
 q22 == (lZ l) else false); let q9 := (zz q10 (zz (zj q12 != iZ) (Wk [] [] ∧ true = true) (zz q10 (zz (!zy true q13 || zy true q13) (zz (!yp q12 == iZ || zy true q13) (zz q14 (zz q14 (zz (!zy true q15 || ZV Row q17) (zz (!zy true q15 || ZV Row q11) (zz ((!bif yp q12 == iZ then Zn q16 == iZ else false) || zy true q15) (zz q19 (zz q19 (zz q19 (zz q19 (zz ((!bif bif yp q12 == iZ then Zn q16 == iZ else false then rowsOf q17 == rowsOf q11 else false) || zy
 true q20) ((zy true q21 = true → Wk [] []) ∧ zz ((!bif bif bif yp q12 == iZ then Zn q16 == iZ else false then rowsOf q17 == rowsOf q11 else false then q22 == (lZ l) else false) || zy true q21) ((bif bif bif bif yp q12 == iZ then Zn q16 == iZ else false then rowsOf q17 == rowsOf q11 else false then q22 == (lZ l) else false then true else false) = true) False) False) False) False) False) False) False) False) False) False) False) False) False) False)) False); Zo [AV.xl false 5 (lN l) fun i j => zv.enc
 (gD l i zv.dflt) j, AV.str s] → zz q1 (zz q1 (zz (!!zl (12 : Int) (lZ l) || zy false q2) (zz (bif zl (12 : Int) (lZ l) then true else zl (300 : Int) (lZ s)) (Wk [] [] ∧ true = true) (zz (Zn s == iZ) (zz (ZV Row q3) (zz q4 (zz q4 (zz (!!yp q6 != iZ || zy false q5) (zz q7 (zz (!zy false q8 || ZV Row q3) (zz q7 (zz ((!!bif yp q6 != iZ then true else !y9 q6 == s) || zy false q8) (zz (bif bif yp q6 != iZ then true else !y9 q6 == s
 then true else zj q6 != iZ) (false = true) q9) False) False) False) False) False) False) False) False) q9)) False) False) False := by
 delta lZ lN gD iZ
 dsimp only
 intro hb
 have e2 : (zv.dflt : Row) = r0 := rfl
 simp only [sS, zJ, zm, zM, zQ, yn, ZQ, X4, yO, w8, yA, wC, yb, yB, Zj, e2]
 refine zT.2 ⟨fun _ => Wk.refl _, fun hg => ?_⟩
 rw [Bool.or_eq_false_iff] at hg
 have h12 : l.length ≤ 12 := by
  have : ¬ (12 : Int) < (l.length : Int) := fun e => by rw [(zK _ _).2 e] at hg; cases hg.1
  omega
 have fin : (zj l ≠ 0 → Wk [] []) ∧ (zj l = 0 → ((yp l == 0 && Zn (y9 l) == 0 && yS (y9 l) == l && ((y9 l).count 10 : Int) == (l.length : Int)) = true → Wk [] []) ∧
   (yp l == 0 && Zn (y9 l) == 0 && yS (y9 l) == l && ((y9 l).count 10 : Int) == (l.length : Int) && true) = true) := by
  refine ⟨fun _ => Wk.refl _, fun h => ⟨fun _ => Wk.refl _, ?_⟩⟩
  obtain ⟨p1, p2, p3, p4⟩ := UA h h12
  rw [p1, p2, p3, p4]
  simp
 refine ⟨fun h => zT.2 ⟨fun hx => ?_, fun _ => fin⟩, fun _ => fin⟩
 obtain ⟨p1, p2, p3⟩ := tY h
 rw [p1, p2, p3] at hx
 simp at hx
theorem p7 {G : List (Nat × Obj)} (hG : xN G) (l : List Row) (s : zp) : zW Tryz.prog G 7 [yI l, .str s] (.b true) :=
 zt (T := P7 G) (an := .auto) mixed (so hG) (Eq.mp (by kernel_rfl) (QM G l s))
end Go.Te

namespace Go.Te
open Go Go.Sx Go.Proofs Go.Ar Go.RowKit
set_option maxRecDepth 100000
section
variable {H : Type} {enc : TypeId × Value → H} {W : World} {spare : Nat → Bool} {held : Bool}
theorem Sq {base n : Nat} {A : Addr} {cs : List Value} (h : W.cells? base A n = some cs) : cs.length = n ∧ ∀ i, i < n → W.cell? (A.add i) = some (cs.getD i undef) := by
 unfold World.cells? at h
 split at h
 ·refine ⟨by simpa using Lib.mapM_length h, fun i hi => ?_⟩
  obtain ⟨b, hb, hf⟩ := Lib.mapM_at h i i (by simp [hi])
  rw [hf, List.getD_eq_getElem?_getD, hb, Option.getD_some]
 ·cases h
theorem qn {A : Addr} {v : Value} (h : W.cell? A = some v) : A.block < W.heap.size := by
 rcases Nat.lt_or_ge A.block W.heap.size with h' | h'
 ·exact h'
 ·simp [World.cell?, Array.getElem?_eq_none h'] at h
theorem rW : Tryz.prog.cellsOf 3 = 1 := by kernel_rfl
abbrev qN (W : World) : Nat → Prop := fun b => b < W.heap.size
def SF {α : Type} [zv α] (W : World) (a : α) (cs : List Value) : Prop :=
 ∀ j, j < zv.n α → zr W (qN W) Zx (zv.enc a j) (cs.getD j undef) ∧ (cs.getD j undef).oneCell' = true
theorem xO {n : Nat} {cs : List Value} {x : DataW H × List MemPlace} (h : DataW.trod enc Tryz.prog W 0 spare held n 3 cs = some x) : ∃ m, cs = [.int .i64 m] ∧ ZG .i64 m := by
 obtain ⟨m, h1, _, h3⟩ := DataW.trod_int Tryz.underlying3 h
 refine ⟨m, h1, ?_⟩
 simp only [Lit.wf, Bool.and_eq_true, decide_eq_true_eq] at h3
 exact h3
theorem tt {α : Type} [zv α] {t e : TypeId} (hu : Tryz.prog.underlying t = some (.slice e)) (hn : Tryz.prog.cellsOf e = zv.n α) {Good : α → Prop} (hd : Good zv.dflt)
  (hel : ∀ {n : Nat} {cs : List Value} {x : DataW H × List MemPlace}, DataW.trod enc Tryz.prog W 0 spare held n e cs = some x → ∃ a : α, SF W a cs ∧ Good a)
  {n : Nat} {cs : List Value} {x : DataW H × List MemPlace} (h : DataW.trod enc Tryz.prog W 0 spare held n t cs = some x) :
  ∃ (v : Value) (l : List α), cs = [v] ∧ v.oneCell' = true ∧ zr W (qN W) Zx (yI l) v ∧ ∀ j, Good (l.getD j zv.dflt) := by
 rcases DataW.trod_slice hu h with ⟨h1, _⟩ | ⟨a, len, cap, elems, rest, m, _, h1, _, _, h2, h3, h4, h5, _, _⟩
 ·exact ⟨_, [], h1, rfl, .xl none 0 (fun _ _ => undef) (Nat.le_refl _) (Nat.zero_le _) (fun _ => rfl) (fun i j hi => absurd hi (Nat.not_lt_zero _)) (fun i j hi => absurd hi (Nat.not_lt_zero _)), fun j => by simpa using hd⟩
 ·rw [hn] at h5
  have key : ∀ i, ∃ u : α, (i < len → ∀ j, j < zv.n α → ∃ c, W.cell? (a.add (i * zv.n α + j)) = some c ∧ zr W (qN W) Zx (zv.enc u j) c ∧ c.oneCell' = true) ∧ Good u := fun i => by
   by_cases hi : i < len
   ·have := h5 i hi
    rw [List.getElem?_eq_getElem (by omega)] at this
    obtain ⟨cs', hc, hd'⟩ := Option.bind_eq_some_iff.1 this
    obtain ⟨u, h6, h7⟩ := hel hd'
    refine ⟨u, fun _ j hj => ⟨cs'.getD j undef, ?_, h6 j hj⟩, h7⟩
    have := (Sq hc).2 j hj
    rw [YP] at this
    exact this
   ·exact ⟨zv.dflt, fun h => absurd h hi, hd⟩
  obtain ⟨f, hf⟩ : ∃ f : Nat → α, ∀ i, (i < len → ∀ j, j < zv.n α → ∃ c, W.cell? (a.add (i * zv.n α + j)) = some c ∧ zr W (qN W) Zx (zv.enc (f i) j) c ∧ c.oneCell' = true) ∧ Good (f i) :=
   ⟨fun i => Classical.choose (key i), fun i => Classical.choose_spec (key i)⟩
  have hg : ∀ i, i < len → (xy len f).getD i zv.dflt = f i := fun i hi => by simp [xy, List.getD_eq_getElem?_getD, hi]
  have hlen : (xy len f).length = len := by simp [xy]
  refine ⟨_, xy len f, h1, rfl, ?_, fun i => ?_⟩
  ·unfold yI
   rw [hlen]
   refine .xl (some a) cap (fun i j => (W.cell? (a.add (i * zv.n α + j))).getD undef) h2 h3 (fun e => by cases e) (fun i j hi hj => ?_) (fun i j hi hj => ?_)
   ·obtain ⟨c, hc, _, ho⟩ := (hf i).1 hi j hj
    refine ⟨a, rfl, ?_, ?_, ?_⟩
    ·have := qn hc
     rw [ZW] at this
     exact this
    ·show W.cell? (a.add (i * zv.n α + j)) = some _
     rw [hc]; rfl
    ·rw [hc]; exact ho
   ·obtain ⟨c, hc, hr, _⟩ := (hf i).1 hi j hj
    rw [hg i hi, hc]
    exact hr
  ·by_cases hi : i < len
   ·rw [hg i hi]; exact (hf i).2
   ·rw [List.getD_eq_getElem?_getD, List.getElem?_eq_none (by omega)]
    exact hd
theorem W9 : Tryz.prog.cellsOf 38 = 5 := by kernel_rfl
theorem UQ {n : Nat} {cs : List Value} {x : DataW H × List MemPlace} (h : DataW.trod enc Tryz.prog W 0 spare held n 38 cs = some x) : ∃ g : Row, SF W g cs ∧ True := by
 obtain ⟨xs, m, _, _, hl, hx, hf⟩ := DataW.trod_struct Tryz.underlying38 h
 rw [W9] at hl
 match cs, hl with
 | [c0, c1, c2, c3, c4], _ =>
 have hx3 : xs.length = 5 := hx
 have g0 : DataW.trod enc Tryz.prog W 0 spare held m 3 (([c0, c1, c2, c3, c4].drop 0).take (Tryz.prog.cellsOf 3)) = xs[0]? := hf 0 _ rfl
 have g1 : DataW.trod enc Tryz.prog W 0 spare held m 3 (([c0, c1, c2, c3, c4].drop 1).take (Tryz.prog.cellsOf 3)) = xs[1]? := hf 1 _ rfl
 have g2 : DataW.trod enc Tryz.prog W 0 spare held m 3 (([c0, c1, c2, c3, c4].drop 2).take (Tryz.prog.cellsOf 3)) = xs[2]? := hf 2 _ rfl
 have g3 : DataW.trod enc Tryz.prog W 0 spare held m 3 (([c0, c1, c2, c3, c4].drop 3).take (Tryz.prog.cellsOf 3)) = xs[3]? := hf 3 _ rfl
 have g4 : DataW.trod enc Tryz.prog W 0 spare held m 3 (([c0, c1, c2, c3, c4].drop 4).take (Tryz.prog.cellsOf 3)) = xs[4]? := hf 4 _ rfl
 rw [rW] at g0 g1 g2 g3 g4
 rw [List.getElem?_eq_getElem (by omega)] at g0 g1 g2 g3 g4
 obtain ⟨z0, e0, _⟩ := xO g0
 obtain ⟨z1, e1, _⟩ := xO g1
 obtain ⟨z2, e2, _⟩ := xO g2
 obtain ⟨z3, e3, _⟩ := xO g3
 obtain ⟨z4, e4, _⟩ := xO g4
 simp only [List.drop_zero, List.drop_succ_cons, List.take_succ_cons, List.take_zero, List.cons.injEq, and_true] at e0 e1 e2 e3 e4
 subst e0 e1 e2 e3 e4
 refine ⟨⟨z0, z1, z2, z3, z4⟩, fun j hj => ?_, trivial⟩
 match j, hj with
 | 0, _ => exact ⟨.v _, rfl⟩
 | 1, _ => exact ⟨.v _, rfl⟩
 | 2, _ => exact ⟨.v _, rfl⟩
 | 3, _ => exact ⟨.v _, rfl⟩
 | 4, _ => exact ⟨.v _, rfl⟩
theorem US {α : Type} [zv α] {t e : TypeId} (hu : Tryz.prog.underlying t = some (.slice e)) (hn : Tryz.prog.cellsOf e = zv.n α) {Good : α → Prop} (hd : Good zv.dflt)
  (hel : ∀ {n : Nat} {cs : List Value} {x : DataW H × List MemPlace}, DataW.trod enc Tryz.prog W 0 spare held n e cs = some x → ∃ a : α, SF W a cs ∧ Good a)
  {o : Option Addr} {n c : Nat} {d : DataW H} {ps : List MemPlace} (h : DataW.Trod enc Tryz.prog W 0 spare held t (.slice o n c) d ps) :
  ∃ l : List α, zr W (qN W) Zx (yI l) (.slice o n c) ∧ ∀ j, Good (l.getD j zv.dflt) := by
 obtain ⟨m, h⟩ := h
 have hcs : (Value.slice o n c).cells.toList = [.slice o n c] := rfl
 rw [hcs] at h
 obtain ⟨v, l, e1, _, e3, e4⟩ := tt hu hn hd hel h
 obtain rfl : Value.slice o n c = v := by simpa using e1
 exact ⟨l, e3, e4⟩
end
end Go.Te

namespace Go.Te
open Go Go.Sx Go.Proofs Go.Ar Go.RowKit
set_option maxRecDepth 100000
structure Qu where
 l : List Row
 w : Int
 d : Int
 s : Int
 q : Int
 sp : zp
instance : zv Qu := ⟨6, ⟨[], 0, 0, 0, 0, []⟩, fun c => zU [yI c.l, .i c.w, .i c.d, .i c.s, .i c.q, .str c.sp], fun cs => ⟨wF (cs 0), AV.int (cs 1), AV.int (cs 2), AV.int (cs 3), AV.int (cs 4), AV.bytes (cs 5)⟩,
 fun cs => ZV Row (cs 0) && ye (cs 1) && ye (cs 2) && ye (cs 3) && ye (cs 4) && Ux (cs 5), fun cs h j hj => by
 simp only [Bool.and_eq_true] at h
 match j, hj with
 | 0, _ => exact zH h.1.1.1.1.1
 | 1, _ => exact zF (Zs h.1.1.1.1.2)
 | 2, _ => exact zF (Zs h.1.1.1.2)
 | 3, _ => exact zF (Zs h.1.1.2)
 | 4, _ => exact zF (Zs h.1.2)
 | 5, _ => exact zF (Ug h.2)⟩
instance : ym Qu := ⟨fun c => by cases c; simp [zv.enc, zv.dec, zU, TS, AV.int, AV.bytes], fun c => by cases c; simp [zv.enc, zv.ok, zU, Ur, ye, Ux]⟩
section
variable {H : Type} {enc : TypeId × Value → H} {W : World} {spare : Nat → Bool} {held : Bool}
theorem Wg (s : ByteArray) {S : Nat → Prop} {ρ : Nat → Sx.Own} : zr W S ρ (.str s.data.toList) (.string s) := by
 have h : zr W S ρ (.str s.data.toList) (.string ⟨s.data.toList.toArray⟩) := .str _
 simpa using h
end
end Go.Te
