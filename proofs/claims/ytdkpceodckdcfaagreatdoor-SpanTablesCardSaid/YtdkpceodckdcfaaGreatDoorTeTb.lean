/- kingpostref53: row, Print, number. -/
import Derived.Test.YtdkpceodckdcfaaGreatDoorTeTd
import Derived.Test.YtdkpceodckdcfaaGreatDoorTeTf
set_option linter.unusedSimpArgs false
set_option linter.unusedVariables false
namespace Go.Te
open Go Go.Sx Go.Proofs Go.Ar Go.RowKit
set_option maxRecDepth 100000
set_option maxHeartbeats 4000000
def ti : List AV → Option (List zS × AV)
 | [x_x] => some ([.b (Y2 Row x_x), .p (y2 (Yo (α := Row) x_x) = true)], .str (xT (Yo (α := Row) x_x)))
 | _ => none
theorem qq (G : List (Nat × Obj)) (x : Row) (h : y2 x = true) :
 let q1 := (ByteArray.data (ByteArray.mk #[(32 : UInt8)])); Zo [AV.agg 5 (zv.enc x)] → (iN ≤ Row.w x ∧ Row.w x ≤ iX) ∧ zz (DB.db (lN (Lib.itoa (Row.w x)) + 1 ≤ 9223372036854775807)) ((iN ≤ Row.d x ∧ Row.d x ≤ iX) ∧ zz (DB.db (lN (Lib.itoa (Row.w x) ++ Array.toList q1) + lN (Lib.itoa (Row.d x)) ≤ 9223372036854775807)) (zz (DB.db (lN (Lib.itoa (Row.w x) ++ Array.toList q1 ++ Lib.itoa (Row.d x)) + 1 ≤ 9223372036854775807)) (((-9223372036854775808 :
 Int) ≤ Row.s x ∧ Row.s x ≤ iX) ∧ zz (DB.db (lN (Lib.itoa (Row.w x) ++ Array.toList q1 ++ Lib.itoa (Row.d x) ++ Array.toList q1) + lN (Lib.itoa (Row.s x)) ≤ 9223372036854775807)) (zz (DB.db (lN (Lib.itoa (Row.w x) ++ Array.toList q1 ++ Lib.itoa (Row.d x) ++ Array.toList q1 ++ Lib.itoa (Row.s x)) + 1 ≤ 9223372036854775807)) ((iN ≤ Row.q x ∧ Row.q x ≤ iX) ∧ zz (DB.db (lN (Lib.itoa (Row.w x) ++ Array.toList q1 ++ Lib.itoa (Row.d x) ++ Array.toList q1 ++ Lib.itoa (Row.s x) ++
 Array.toList q1) + lN (Lib.itoa (Row.q x)) ≤ 9223372036854775807)) (zz (DB.db (lN (Lib.itoa (Row.w x) ++ Array.toList q1 ++ Lib.itoa (Row.d x) ++ Array.toList q1 ++ Lib.itoa (Row.s x) ++ Array.toList q1 ++ Lib.itoa (Row.q x)) + 1 ≤ 9223372036854775807)) ((iN ≤ Row.n x ∧ Row.n x ≤ iX) ∧ zz (DB.db (lN (Lib.itoa (Row.w x) ++ Array.toList q1 ++ Lib.itoa (Row.d x) ++ Array.toList q1 ++ Lib.itoa (Row.s x) ++ Array.toList q1 ++ Lib.itoa (Row.q x) ++ Array.toList q1) + lN (Lib.itoa (Row.n x)) ≤
 9223372036854775807)) (zz (DB.db (lN (Lib.itoa (Row.w x) ++ Array.toList q1 ++ Lib.itoa (Row.d x) ++ Array.toList q1 ++ Lib.itoa (Row.s x) ++ Array.toList q1 ++ Lib.itoa (Row.q x) ++ Array.toList q1 ++ Lib.itoa (Row.n x)) + 1 ≤ 9223372036854775807)) (Lib.itoa (Row.w x) ++ Array.toList q1 ++ Lib.itoa (Row.d x) ++ Array.toList q1 ++ Lib.itoa (Row.s x) ++ Array.toList q1 ++ Lib.itoa (Row.q x) ++ Array.toList q1 ++ Lib.itoa (Row.n x) ++ Array.toList (ByteArray.data (ByteArray.mk #[(10 : UInt8)])) = xT x) False) False) False) False) False) False) False) False) False := by
 delta lN iX iN
 dsimp only
 intro hb
 have n := WX h
 have r := xM h
 simp only [sS, zJ, zm, zM, zQ, yn, ZQ, X4, yO, w8, yA, wC, yb, yB, Zj]
 simp only [List.length_append, List.length_singleton]
 have e := Yd [] x
 rw [List.nil_append, List.nil_append] at e
 refine ⟨⟨by omega, by omega⟩, by omega, ⟨by omega, by omega⟩, by omega, by omega, ⟨by omega, by omega⟩, by omega, by omega, ⟨by omega, by omega⟩, by omega, by omega, ⟨by omega, by omega⟩, by omega, by omega, e.symm⟩
theorem QA {G : List (Nat × Obj)} (hG : yZ G) (x : Row) (h : y2 x = true) : zW Tryz.prog G 81 [wV x] (.str (xT x)) :=
 zt (T := pd G) (an := .auto) mixed (x7 hG) (Eq.mp (by kernel_rfl) (qq G x h))
theorem QC {G : List (Nat × Obj)} (hG : yZ G) : zn Tryz.prog G 81 ti := by
 intro xs ps r h hp
 unfold ti at h
 split at h
 ·skip
  rename_i x_x
  cases h
  obtain ⟨q0, q1, -⟩ := Yc hp
  exact weaken (ys := [wV (Yo (α := Row) x_x)]) ⟨ZI q0, trivial⟩ (QA hG (Yo (α := Row) x_x) q1)
 ·cases h
def QB (l : List Row) : Z8 :=
 .two .auto (.two .auto (.two .auto (.two (.two .auto (.one (.loop Nat (fun σ z => [(0, σ.tm 0), (4, .str (yL l z)), (5, .i z)]) (fun σ z => []) 0 (fun σ z => z ≤ l.length) (fun σ z => l.length - z) .auto))) .auto)))
def RS : List AV → Option (List zS × AV)
 | [x_l] => some ([.b (ZV Row x_l)], .tup 2 (zU [.str (y9 (wF (α := Row) x_l)), .i (yp (wF (α := Row) x_l))]))
 | _ => none
theorem QF (G : List (Nat × Obj)) (l : List Row) :
 let q1 := (AV.xl false 5 (lN l) fun i j => zv.enc (gD l i zv.dflt) j); let q2 := (True ∧ Array.toList (ByteArray.data (ByteArray.mk #[])) = y9 l); Zo [AV.xl false 5 (lN l) fun i j => zv.enc (gD l i zv.dflt) j] → zz (ZV Row q1) (zz (zj (rowsOf q1) != iZ) (j2 ∧ q2 ∧ kI ∧ iO = yp l) ((∃ (z : Nat), (z ≤ lN l ∧ zc q1 q1 ∧ Array.toList (ByteArray.data (ByteArray.mk #[])) = yL l z ∧ kI ∧ iZ = (↑z : Int)) ∧ True) ∧ ∀ (z : Nat), let q3 := (Yo (AV.agg 5 fun
 (i : Nat) => zv.enc (gD l (Int.toNat (↑z : Int)) zv.dflt) (0 + i))); z ≤ lN l → zz (zl (↑z : Int) (lZ l)) (zz (DB.db (iZ ≤ (↑z : Int) ∧ (↑z : Int) < (lZ l))) (y2 q3 = true ∧ zz (DB.db (lN (yL l z) + lN (xT q3) ≤ 9223372036854775807)) (zz (DB.db (ZG .i64 ((↑z : Int) + iO))) (∃ (z' : Nat), ((z' ≤ lN l ∧ lN l - z' < lN l - z) ∧ zc q1 q1 ∧ yL l z ++ xT q3 = yL l z' ∧ kI ∧ (↑z : Int) + iO = (↑z' : Int)) ∧ True) False) False) False)
 (zz (zl (65536 : Int) (lZ (yL l z))) (j2 ∧ q2 ∧ kI ∧ (4 : Int) = yp l) (j2 ∧ (True ∧ yL l z = y9 l) ∧ kI ∧ iZ = yp l)))) False := by
 delta kI j2 lZ lN gD iZ iO
 dsimp only
 intro hb
 have e2 : (zv.dflt : Row) = r0 := rfl
 simp only [sS, zJ, zm, zM, zQ, yn, ZQ, X4, yO, w8, yA, wC, yb, yB, Zj, e2]
 refine ⟨fun h => ?_, fun h => ⟨⟨0, by omega, rfl, rfl⟩, fun z hz => ⟨fun hzl => ?_, fun hzl => ?_⟩⟩⟩
 ·have e : yp l = 1 := by unfold yp; rw [bne_iff_ne.2 h]; rfl
  exact ⟨rfl, by unfold y9; rw [e]; rfl, e.symm⟩
 ·have hall := tE h
  have lz := Wy hall z hz
  have r := xM (hall z (by omega))
  have rl := congrArg List.length (Yd [] (l.getD z r0))
  simp only [List.nil_append, List.length_append, List.length_singleton] at rl
  have h6 := (uN h).1
  exact ⟨⟨by omega, hzl⟩, hall z (by omega), by omega, ⟨by omega, by omega⟩, z + 1, ⟨by omega, by omega⟩, (X0 (by omega)).symm, by omega⟩
 ·have ez : z = l.length := by omega
  rw [ez, WW]
  refine ⟨fun hb6 => ?_, fun hb6 => ?_⟩
  ·have e : yp l = 4 := by unfold yp; rw [h, (zK _ _).2 hb6]; rfl
   exact ⟨rfl, by unfold y9; rw [e]; rfl, e.symm⟩
  ·have e : yp l = 0 := by unfold yp; rw [h, show zl 65536 (wB l).length = false from Bool.eq_false_iff.2 fun e => by have := (zK _ _).1 e; omega]; rfl
   exact ⟨rfl, by unfold y9; rw [e]; rfl, e.symm⟩
theorem Py {G : List (Nat × Obj)} (hG : yZ G) (l : List Row) : zW Tryz.prog G 29 [yI l] (.tup 2 (zU [.str (y9 l), .i (yp l)])) :=
 zt (T := ((SJ G).plus 20 YT).plus 81 ti) (an := QB l) mixed (zZ.plus (zZ.plus zR (zn.mono xC)) (QC hG)) (Eq.mp (by kernel_rfl) (QF G l))
theorem pF {G : List (Nat × Obj)} (hG : yZ G) : zn Tryz.prog G 29 RS := by
 intro xs ps r h hp
 unfold RS at h
 split at h
 ·skip
  rename_i x_l
  cases h
  obtain ⟨q0, -⟩ := Yc hp
  exact weaken (ys := [yI (wF (α := Row) x_l)]) ⟨zH q0, trivial⟩ (Py hG (wF (α := Row) x_l))
 ·cases h
def yw (s : zp) : Int := bif YO s then (zP (s.takeWhile zC) : Int) else 0
def zd (s : zp) : Nat := bif YO s then ZD s else 0
theorem SS {s : zp} (h : 10 ≤ (xX s).length) : yw s = 0 ∧ zd s = 0 := by
 have e : YO s = false := by
  unfold YO
  rw [show Nat.ble (ZD s) 9 = false from Bool.eq_false_iff.2 fun e => by have := Nat.le_of_ble_eq_true e; unfold ZD at this; unfold xX at h; omega, Bool.and_false]
 unfold yw zd
 rw [e]
 exact ⟨rfl, rfl⟩
theorem rM {s : zp} (h : 1 < (xX s).length) (h0 : s.getD 0 0 = 48) : yw s = 0 ∧ zd s = 0 := by
 have hd : ZH (s.takeWhile zC) = false := by
  cases hc : ZH (s.takeWhile zC) with
  | false => rfl
  | true =>
   obtain ⟨_, _, h3⟩ := Zv.1 hc
   have h4 := h3 h
   have hs := Xd s
   have e : (s.takeWhile zC).getD 0 0 = s.getD 0 0 := by
    conv => rhs; rw [← hs]
    rw [List.getD_eq_getElem?_getD, List.getD_eq_getElem?_getD, List.getElem?_append_left (by omega)]
    rfl
   rw [e] at h4
   exact absurd h0 h4
 have e : YO s = false := by unfold YO; rw [hd, Bool.false_and]
 unfold yw zd
 rw [e]
 exact ⟨rfl, rfl⟩
theorem RV {s : zp} {z : Nat} (h : xX s = s.take z) (hz : z ≤ s.length) (h9 : z ≤ 9) (h0 : ¬ (1 < z ∧ s.getD 0 0 = 48)) : yw s = (zP (s.take z) : Nat) ∧ zd s = z := by
 have hk : ZD s = z := by
  have := congrArg List.length h
  rw [List.length_take] at this
  unfold ZD
  unfold xX at this
  omega
 unfold xX at h
 by_cases hz0 : z = 0
 ·subst hz0
  have e : YO s = false := by unfold YO; rw [h]; rfl
  unfold yw zd
  rw [e]
  exact ⟨rfl, rfl⟩
 ·have hd : ZH (s.takeWhile zC) = true := by
   rw [Zv]
   refine ⟨by unfold ZD at hk; omega, fun c hc => List.all_eq_true.1 (List.all_takeWhile (l := s) (p := zC)) c hc, fun h1 h2 => h0 ⟨by unfold ZD at hk; omega, ?_⟩⟩
   rw [h] at h2
   rw [← h2, List.getD_eq_getElem?_getD, List.getD_eq_getElem?_getD, List.getElem?_take_of_lt (by omega)]
  have e : YO s = true := by unfold YO; rw [hd, hk, Bool.true_and]; exact Nat.ble_eq_true_of_le h9
  unfold yw zd
  rw [e, h, hk]
  exact ⟨rfl, rfl⟩
def qu (s : zp) : Z8 :=
 .two .auto (.two .auto (.two (.one (.loop Nat (fun σ z => [(0, σ.tm 0), (4, .i (zP (s.take z) : Nat)), (5, .i z)]) (fun σ z => []) 0 (fun σ z => z ≤ s.length ∧ z ≤ 10 ∧ ∀ i, i < z → zC (s.getD i 0) = true) (fun σ z => 10 - z) .auto)) .auto))
def Tw : List AV → Option (List zS × AV)
 | [.str s] => some ([.p (s.length ≤ 4294967280)], .tup 2 (zU [.i (yw s), .i (zd s : Nat)]))
 | _ => none
theorem qE (s : List UInt8) (hl : s.length ≤ 4294967280) :
 Zo [AV.str s] → (∃ (z : Nat), ((z ≤ lN s ∧ z ≤ 10 ∧ ∀ (i : Nat), i < z → zC (gD s i (0 : UInt8)) = true) ∧ s = s ∧ (kI ∧ iZ = (↑(zP (List.take z s)) : Int)) ∧ kI ∧ iZ = (↑z : Int)) ∧ True) ∧ ∀ (z : Nat), let q2 := (zl (↑z : Int) (lZ s)); let q1 := (!zy true q2 || zy true q2); let q3 := (iZ ≤ (↑z : Int) ∧ (↑z : Int) < (lZ s)); let q6 := (↑(UInt8.toNat (gD s (Int.toNat (↑z : Int)) (0 : UInt8))) : Int); let q5 := (bif zl (↑z : Int) (lZ s) then leB (48 : Int)
 q6 else false); let q4 := (!zy true q5 || zy true q5); let q7 := (bif bif zl (↑z : Int) (lZ s) then leB (48 : Int) q6 else false then leB q6 (57 : Int) else false); let q8 := (q6 - (48 : Int)); let q9 := (!zy false (zl (9 : Int) (↑z : Int)) || zy false (zl (9 : Int) (↑z : Int))); let q11 := (zy false (zl (9 : Int) (↑z : Int)) && zy true (zl iO (↑z : Int))); let q10 := (!q11 || zy false (zl (9 : Int) (↑z : Int)) && zy true (zl iO (↑z : Int))); (z ≤ lN s ∧ z ≤ 10 ∧ ∀ (i : Nat), i < z → zC (gD s i (0 : UInt8)) = true) →
 zz q1 (zz q1 (zz (!zy true q2 || DB.db q3) (zz q1 (zz (!zl (↑z : Int) (lZ s) || zy true q2) (zz q4 (zz q4 (zz (!zy true q5 || DB.db q3) (zz q4 (zz ((!bif zl (↑z : Int) (lZ s) then leB (48 : Int) q6 else false) || zy true q5) (zz (!zy true q7 || zy true q7) (zz ((!bif bif zl (↑z : Int) (lZ s) then leB (48 : Int) q6 else false then leB q6 (57 : Int) else false) || zy true q7) (zz (bif bif bif zl (↑z : Int) (lZ s) then leB (48 : Int) q6 else false then leB
 q6 (57 : Int) else false then zl (↑z : Int) (10 : Int) else false) (zz (DB.db (ZG .i64 ((10 : Int) * (↑(zP (List.take z s)) : Int)))) (zz (DB.db q3) (zz (DB.db (ZG IntKind.u8 q8)) (zz (DB.db (ZG .i64 q8)) (zz (DB.db (ZG .i64 ((10 : Int) * (↑(zP (List.take z s)) : Int) + q8))) (zz (DB.db (ZG .i64 ((↑z : Int) + iO))) (∃ (z' : Nat), (((z' ≤ lN s ∧ z' ≤ 10 ∧ ∀ (i : Nat), i < z' → zC (gD s i (0 : UInt8)) = true) ∧ 10 - z' < 10 - z) ∧ s = s ∧ (kI ∧ (10 : Int) * (↑(zP (List.take z s)) : Int) + q8 = (↑(zP (List.take z' s)) :
 Int)) ∧ kI ∧ (↑z : Int) + iO = (↑z' : Int)) ∧ True) False) False) False) False) False) False) (zz q9 (zz q9 (zz q10 (zz (!q11 || DB.db (iZ ≤ iZ ∧ iZ < (lZ s))) (zz q10 (zz q9 (zz (!zy false (zl (9 : Int) (↑z : Int)) || (!zl iO (↑z : Int) || zy false (zl (9 : Int) (↑z : Int)) && zy true (zl iO (↑z : Int)))) (zz (!!zl (9 : Int) (↑z : Int) || zy false (zl (9 : Int) (↑z : Int))) (zz (bif zl (9 : Int) (↑z : Int) then true else bif zl iO (↑z : Int) then (↑(UInt8.toNat
 (gD s 0 (0 : UInt8))) : Int) == (48 : Int) else false) (j2 ∧ (True ∧ kI ∧ iZ = yw s) ∧ kI ∧ iZ = (↑(zd s) : Int)) (j2 ∧ (True ∧ kI ∧ (↑(zP (List.take z s)) : Int) = yw s) ∧ kI ∧ (↑z : Int) = (↑(zd s) : Int))) False) False) False) False) False) False) False) False)) False) False) False) False) False) False) False) False) False) False) False) False := by
 delta kI j2 lZ lN gD iZ iO
 dsimp only
 intro hb
 simp only [sS, zJ, zm, zM, zQ, yn, ZQ, X4, yO, w8, yA, wC, yb, yB, Zj]
 refine ⟨⟨0, ⟨Nat.zero_le _, by omega, fun i hi => absurd hi (Nat.not_lt_zero _)⟩, rfl, rfl⟩, fun z ⟨z1, z2, z3⟩ => ⟨fun h => ?_, fun h => ?_, zT.2 ⟨fun h => ?_, fun h => ?_⟩⟩⟩
 ·have := (zK _ _).1 h; exact ⟨by omega, by omega⟩
 ·rw [Bool.and_eq_true] at h; have := (zK _ _).1 h.1; exact ⟨by omega, by omega⟩
 ·simp only [Bool.and_eq_true, zK, Zk] at h
  obtain ⟨⟨⟨h1, h2⟩, h3⟩, h4⟩ := h
  have hz : z < s.length := by omega
  have hd : zC (s.getD z 0) = true := yd.2 ⟨by omega, by omega⟩
  have ht : s.take (z + 1) = s.take z ++ [s.getD z 0] := VR hz
  have hv : zP (s.take (z + 1)) = 10 * zP (s.take z) + wa (s.getD z 0) := by rw [ht, wT]
  have hlt : zP (s.take z) < 10 ^ 9 := by
   have hall : (s.take z).all zC = true := List.all_eq_true.2 fun c hc => by
    obtain ⟨i, hi, rfl⟩ := List.getElem_of_mem hc
    rw [List.length_take] at hi
    have := z3 i (by omega)
    rw [List.getElem_take]
    rwa [List.getD_eq_getElem?_getD, List.getElem?_eq_getElem (by omega)] at this
   refine Nat.lt_of_lt_of_le (Xg hall) (Nat.pow_le_pow_right (by omega) ?_)
   rw [List.length_take]
   omega
  have dv : wa (s.getD z 0) = (s.getD z 0).toNat - 48 := rfl
  simp only [ZG]
  refine ⟨⟨by omega, by omega⟩, ⟨by omega, by omega⟩, ⟨by omega, by omega⟩, ⟨by omega, by omega⟩, ⟨by omega, by omega⟩, ⟨by omega, by omega⟩, z + 1, ⟨⟨by omega, by omega, fun i hi => ?_⟩, by omega⟩, ?_, by omega⟩
  ·by_cases e : i = z
   ·rw [e]; exact hd
   ·exact z3 i (by omega)
  ·rw [hv, dv]; omega
 ·have stop : z = 10 ∨ (xX s = s.take z ∧ z ≤ 9) := by
   by_cases h10 : z = 10
   ·exact .inl h10
   ·refine .inr ⟨qg z1 z3 ?_, by omega⟩
    by_cases hz : z = s.length
    ·exact .inl hz
    ·refine .inr (Bool.eq_false_iff.2 fun hd => ?_)
     rw [yd] at hd
     rw [(zK _ _).2 (by omega), (Zk _ _).2 (by omega), (Zk _ _).2 (by omega), (zK _ _).2 (by omega)] at h
     cases h
  have taut : (!!zl 9 (z : Int) || (!zl 1 (z : Int) || !zl 9 (z : Int) && zl 1 (z : Int))) = true := by cases zl 9 (z : Int) <;> cases zl 1 (z : Int) <;> rfl
  rw [taut]
  refine ⟨fun h1 => ?_, zT.2 ⟨fun _ => zT.2 ⟨fun c => ?_, fun c => ?_⟩, fun c => by cases c⟩⟩
  ·rw [Bool.and_eq_true] at h1
   have := (zK _ _).1 h1.2
   exact ⟨by omega, by omega⟩
  ·have : yw s = 0 ∧ zd s = 0 := by
    rw [Bool.or_eq_true, Bool.and_eq_true, zK, zK, beq_iff_eq] at c
    rcases c with c | ⟨c1, c2⟩
    ·refine SS (Nat.le_trans (by omega : 10 ≤ z) (qc z1 z3))
    ·refine rM (Nat.lt_of_lt_of_le (by omega : 1 < z) (qc z1 z3)) (UInt8.toNat_inj.1 ?_)
     exact Int.ofNat.inj c2
   rw [this.1, this.2]
   exact ⟨rfl, rfl, rfl⟩
  ·rw [Bool.or_eq_false_iff] at c
   have c1 : ¬ (9 : Int) < z := fun e => by rw [(zK _ _).2 e] at c; cases c.1
   rcases stop with s1 | ⟨s1, s2⟩
   ·omega
   ·obtain ⟨v1, v2⟩ := RV s1 z1 s2 fun ⟨d1, d2⟩ => by
     have c2 := c.2
     rw [(zK _ _).2 (by omega : (1 : Int) < z), d2] at c2
     cases c2
    rw [v1, v2]
    exact ⟨rfl, rfl, rfl⟩
theorem Qk (s : List UInt8) (hl : s.length ≤ 4294967280) : zW Tryz.prog [] 82 [.str s] (.tup 2 (zU [.i (yw s), .i (zd s : Nat)])) :=
 zt (T := T0) (an := qu s) mixed zR (Eq.mp (by kernel_rfl) (qE s hl))
theorem QE : zn Tryz.prog [] 82 Tw := by
 intro xs ps r h hp
 unfold Tw at h
 split at h
 ·skip
  rename_i s
  cases h
  obtain ⟨q0, -⟩ := Yc hp
  exact weaken (ys := [.str s]) ⟨zY _, trivial⟩ (Qk s q0)
 ·cases h
end Go.Te

namespace Go.Te
open Go Go.Sx Go.Proofs Go.Ar Go.RowKit
set_option maxRecDepth 100000
set_option maxHeartbeats 4000000
theorem Re (e : UInt8) (t : zp) : (YO t = true → (t.drop (ZD t)).head? = some e → U3 e t = some (yw t, t.drop (zd t + 1)) ∧ zd t = ZD t ∧ 0 < zd t ∧ zd t < t.length ∧ t.getD (zd t) 0 = e) ∧
  ((YO t = false ∨ (t.drop (ZD t)).head? ≠ some e) → U3 e t = none ∧ (zd t = 0 ∨ zd t = t.length ∨ t.getD (zd t) 0 ≠ e)) := by
 have kl : ZD t ≤ t.length := by
  have := congrArg List.length (Xd t)
  rw [List.length_append] at this
  unfold ZD
  unfold xX at this
  omega
 constructor
 ·intro h1 h2
  have e1 : zd t = ZD t := by unfold zd; rw [h1]; rfl
  have e2 : yw t = (zP (t.takeWhile zC) : Nat) := by unfold yw; rw [h1]; rfl
  have hp : 0 < ZD t := by
   unfold YO at h1
   rw [Bool.and_eq_true] at h1
   exact (Zv.1 h1.1).1
  have hg : t[ZD t]? = some e := by
   rw [← h2, List.head?_drop]
  have hlt := (List.getElem?_eq_some_iff.1 hg).1
  refine ⟨?_, e1, by omega, by omega, by rw [e1, List.getD_eq_getElem?_getD, hg]; rfl⟩
  unfold U3
  rw [h1, h2, e1, e2]
  simp
 ·intro h
  have hn : U3 e t = none := by
   unfold U3
   rcases h with h | h
   ·rw [h]; rfl
   ·rw [show ((t.drop (ZD t)).head? == some e) = false from beq_eq_false_iff_ne.2 h, Bool.and_false]; rfl
  refine ⟨hn, ?_⟩
  cases hc : YO t with
  | false => exact .inl (by unfold zd; rw [hc]; rfl)
  | true =>
   have e1 : zd t = ZD t := by unfold zd; rw [hc]; rfl
   rcases h with h | h
   ·rw [h] at hc; cases hc
   ·by_cases hk : ZD t = t.length
    ·exact .inr (.inl (e1.trans hk))
    ·refine .inr (.inr fun h2 => h ?_)
     rw [List.head?_drop, ← h2, e1, List.getD_eq_getElem?_getD, List.getElem?_eq_getElem (by omega)]
     rfl
theorem pE {e : UInt8} {t : zp} {X Y : Prop} {E : Int} (hE : E = e.toNat) (hl : t.length ≤ 70000) (h0 : U3 e t = none → X) (h1 : U3 e t = some (yw t, List.drop ((zd t : Int) + 1).toNat t) → (List.drop ((zd t : Int) + 1).toNat t).length ≤ 70000 → Y) :
  t.length ≤ 4294967280 ∧ ((!((zd t : Int) == 0 || (zd t : Int) == (t.length : Int))) = true → 0 ≤ (zd t : Int) ∧ (zd t : Int) < (t.length : Int)) ∧
   zz ((zd t : Int) == 0 || (zd t : Int) == (t.length : Int) || ((t.getD (zd t) 0).toNat : Int) != E) X
    (ZG IntKind.i64 ((zd t : Int) + 1) ∧ (0 ≤ (zd t : Int) + 1 ∧ (zd t : Int) + 1 ≤ (t.length : Int)) ∧ Y) := by
 obtain ⟨f1, f2⟩ := Re e t
 have kl : zd t ≤ t.length := by
  have := congrArg List.length (Xd t)
  rw [List.length_append] at this
  unfold zd ZD
  unfold xX at this
  cases YO t <;> simp <;> omega
 have et : ((zd t : Int) + 1).toNat = zd t + 1 := by omega
 refine ⟨by omega, fun h => ?_, zT.2 ⟨fun h => h0 ?_, fun h => ?_⟩⟩
 ·rw [Bool.not_eq_true', Bool.or_eq_false_iff, beq_eq_false_iff_ne, beq_eq_false_iff_ne] at h
  exact ⟨by omega, by omega⟩
 ·by_cases hc : YO t = true ∧ (t.drop (ZD t)).head? = some e
  ·obtain ⟨_, _, g3, g4, g5⟩ := f1 hc.1 hc.2
   exfalso
   rw [g5, hE] at h
   simp only [Bool.or_eq_true, beq_iff_eq, bne_self_eq_false, Bool.false_eq_true, or_false] at h
   omega
  ·refine (f2 ?_).1
   rcases Classical.not_and_iff_not_or_not.1 hc with h2 | h2
   ·exact .inl (by simpa using h2)
   ·exact .inr h2
 ·simp only [Bool.or_eq_false_iff, beq_eq_false_iff_ne, bne_eq_false_iff_eq] at h
  obtain ⟨⟨g1, g2⟩, g3⟩ := h
  have hlt : zd t < t.length := by omega
  refine ⟨by simp only [ZG]; omega, ⟨by omega, by omega⟩, ?_⟩
  by_cases hc : YO t = true ∧ (t.drop (ZD t)).head? = some e
  ·obtain ⟨r1, _, _, _, _⟩ := f1 hc.1 hc.2
   rw [et] at h1
   exact h1 r1 (by rw [List.length_drop]; omega)
  ·exfalso
   have := (f2 (by
    rcases Classical.not_and_iff_not_or_not.1 hc with h2 | h2
    ·exact .inl (by simpa using h2)
    ·exact .inr h2)).2
   rcases this with q | q | q
   ·omega
   ·omega
   ·refine q (UInt8.toNat_inj.1 ?_)
    rw [hE] at g3
    omega
theorem Vb.next {s t r : zp} {out : List Row} {x : Row} (h : Vb s ⟨t, out⟩) (hr : Z0 t = some (x, r)) : Vb s ⟨r, out ++ [x]⟩ ∧ r.length < t.length := by
 obtain ⟨_, h2⟩ := ZL.1 hr
 have hp := xL x
 have hl := h.l
 have hq := h.p
 have h3 := congrArg List.length h2
 rw [List.length_append] at h3
 simp only at hl hq
 refine ⟨⟨?_, ?_⟩, by omega⟩
 ·simp only [List.length_append, List.length_cons, List.length_nil]; omega
 ·simp only
  rw [hq, u4 hr, Option.map_map]
  congr 1
  funext l
  simp
def Qe (s : zp) : Z8 :=
 .two .auto (.two .auto (.two .auto (.two (.one (.loop ZX (fun σ z => [(0, .str z.s), (4, .ns σ.nb 0 z.out.length)]) (fun σ z => [(σ.nb, qB z.out)]) 1 (fun σ z => Vb s z) (fun σ z => z.s.length) (.two .auto (.one (.two .auto (.two (.two .auto (.one (.unroll 6 .auto))) .auto)))))) .auto)))
theorem Qa (s : zp) (hl : s.length ≤ 4294967280) :
 let q1 := (True ∧ Value.slice (WU Addr) 0 0 = Value.slice (WU Addr) 0 0 ∧ lN (yS s) = 0); let q6 := (j2 ∧ q1 ∧ kI ∧ (3 : Int) = Zn s); Zo [AV.str s] → zz (zl (65536 : Int) (lZ s)) (j2 ∧ q1 ∧ kI ∧ (4 : Int) = Zn s) ((∃ (z : ZX), (Vb s z ∧ s = ZX.s z ∧ some (WU Nat) = some (WU Nat) ∧ 0 = 0 ∧ lN (ZX.out z) = 0 ∧ true = true ∧ 0 = 0) ∧ lN (ZX.out z) = 0) ∧ ∀ (z : ZX), let q3 := ((↑(zd (ZX.s z)) : Int) == iZ); let q2 := (!zy
 false q3 || zy false q3); let q5 := (bif (↑(zd (ZX.s z)) : Int) == iZ then true else (↑(zd (ZX.s z)) : Int) == (lZ (ZX.s z))); let q4 := (!zy false q5 || zy false q5); let q7 := (List.drop (Int.toNat ((↑(zd (ZX.s z)) : Int) + iO)) (ZX.s z)); let q10 := (↑(zd q7) : Int); let q9 := (q10 == iZ); let q8 := (!zy false q9 || zy false q9); let q13 := (lZ q7); let q12 := (bif q10 == iZ then true else q10 == q13); let q11 := (!zy false q12 || zy false q12); let q14 := (q10 + iO); let q15 := (List.drop
 (Int.toNat q14) q7); let q18 := (↑(zd q15) : Int); let q17 := (q18 == iZ); let q16 := (!zy false q17 || zy false q17); let q21 := (lZ q15); let q20 := (bif q18 == iZ then true else q18 == q21); let q19 := (!zy false q20 || zy false q20); let q22 := (q18 + iO); let q23 := (List.drop (Int.toNat q22) q15); let q26 := (↑(zd q23) : Int); let q25 := (q26 == iZ); let q24 := (!zy false q25 || zy false q25); let q29 := (lZ q23); let q28 := (bif q26 == iZ then true else q26 == q29); let q27 := (!zy false q28 || zy
 false q28); let q30 := (q26 + iO); let q31 := (List.drop (Int.toNat q30) q23); let q34 := (↑(zd q31) : Int); let q33 := (q34 == iZ); let q32 := (!zy false q33 || zy false q33); let q37 := (lZ q31); let q36 := (bif q34 == iZ then true else q34 == q37); let q35 := (!zy false q36 || zy false q36); let q38 := (q34 + iO); let q39 := (AV.xl false 5 (lN (ZX.out z)) fun i j => zv.enc (gD (ZX.out z) (0 + i) zv.dflt) j); let q40 := (rowsOf q39); Vb s z → zz (zl iZ (lZ (ZX.s z))) (lN (ZX.s
 z) ≤ 4294967280 ∧ zz q2 (zz q2 (zz q2 (zz (!!(↑(zd (ZX.s z)) : Int) == iZ || zy false q3) (zz q4 (zz q4 (zz (!zy false q5 || DB.db (iZ ≤ (↑(zd (ZX.s z)) : Int) ∧ (↑(zd (ZX.s z)) : Int) < (lZ (ZX.s z)))) (zz q4 (zz q4 (zz ((!!bif (↑(zd (ZX.s z)) : Int) == iZ then true else (↑(zd (ZX.s z)) : Int) == (lZ (ZX.s z))) || zy false q5) (zz (bif bif (↑(zd (ZX.s z)) : Int) == iZ then true else (↑(zd (ZX.s z)) : Int) == (lZ (ZX.s z)) then true else
 (↑(UInt8.toNat (gD (ZX.s z) (Int.toNat (↑(zd (ZX.s z)) : Int)) (0 : UInt8))) : Int) != (32 : Int)) q6 (zz (DB.db (ZG .i64 ((↑(zd (ZX.s z)) : Int) + iO))) (zz (DB.db (iZ ≤ (↑(zd (ZX.s z)) : Int) + iO ∧ (↑(zd (ZX.s z)) : Int) + iO ≤ (lZ (ZX.s z)))) (lN q7 ≤ 4294967280 ∧ zz q8 (zz q8 (zz q8 (zz (!!q10 == iZ || zy false q9) (zz q11 (zz q11 (zz (!zy false q12 || DB.db (iZ ≤ q10 ∧ q10 < q13)) (zz q11 (zz q11 (zz ((!!bif q10 == iZ then true else q10 ==
 q13) || zy false q12) (zz (bif bif q10 == iZ then true else q10 == q13 then true else (↑(UInt8.toNat (gD q7 (Int.toNat q10) (0 : UInt8))) : Int) != (32 : Int)) q6 (zz (DB.db (ZG .i64 q14)) (zz (DB.db (iZ ≤ q10 + iO ∧ q10 + iO ≤ q13)) (lN q15 ≤ 4294967280 ∧ zz q16 (zz q16 (zz q16 (zz (!!q18 == iZ || zy false q17) (zz q19 (zz q19 (zz (!zy false q20 || DB.db (iZ ≤ q18 ∧ q18 < q21)) (zz q19 (zz q19 (zz ((!!bif q18 == iZ then true else q18 == q21) || zy false q20) (zz
 (bif bif q18 == iZ then true else q18 == q21 then true else (↑(UInt8.toNat (gD q15 (Int.toNat q18) (0 : UInt8))) : Int) != (32 : Int)) q6 (zz (DB.db (ZG .i64 q22)) (zz (DB.db (iZ ≤ q18 + iO ∧ q18 + iO ≤ q21)) (lN q23 ≤ 4294967280 ∧ zz q24 (zz q24 (zz q24 (zz (!!q26 == iZ || zy false q25) (zz q27 (zz q27 (zz (!zy false q28 || DB.db (iZ ≤ q26 ∧ q26 < q29)) (zz q27 (zz q27 (zz ((!!bif q26 == iZ then true else q26 == q29) || zy false q28) (zz (bif bif q26 == iZ then
 true else q26 == q29 then true else (↑(UInt8.toNat (gD q23 (Int.toNat q26) (0 : UInt8))) : Int) != (32 : Int)) q6 (zz (DB.db (ZG .i64 q30)) (zz (DB.db (iZ ≤ q26 + iO ∧ q26 + iO ≤ q29)) (lN q31 ≤ 4294967280 ∧ zz q32 (zz q32 (zz q32 (zz (!!q34 == iZ || zy false q33) (zz q35 (zz q35 (zz (!zy false q36 || DB.db (iZ ≤ q34 ∧ q34 < q37)) (zz q35 (zz q35 (zz ((!!bif q34 == iZ then true else q34 == q37) || zy false q36) (zz (bif bif q34 == iZ then true else q34 == q37 then true
 else (↑(UInt8.toNat (gD q31 (Int.toNat q34) (0 : UInt8))) : Int) != (10 : Int)) q6 (zz (DB.db (ZG .i64 q38)) (zz (DB.db (iZ ≤ q34 + iO ∧ q34 + iO ≤ q37)) (zz (DB.db ((lN (ZX.out z) + 1) * 40 ≤ 140737488355328)) (∃ (z' : ZX), ((Vb s z' ∧ lN (ZX.s z') < lN (ZX.s z)) ∧ List.drop (Int.toNat q38) q31 = ZX.s z' ∧ nat_lit 0 = 0 ∧ 0 = 0 ∧ lN (ZX.out z') = lN (ZX.out z) + 1) ∧ (38 : TypeId) = 38 ∧ 5 = 5 ∧ lN (ZX.out z') = lN (ZX.out z) + 1 ∧ ∀ (i j : Nat), i < lN (ZX.out z) + 1 → j
 < 5 → zc (if i < lN (ZX.out z) then zv.enc (gD (ZX.out z) i zv.dflt) j else Sx.rowAt [zU [aI (yw (ZX.s z)), aI (yw q7), aI (yw q15), aI (yw q23), aI (yw q31)]] (i - lN (ZX.out z)) j) (zv.enc (gD (ZX.out z') i zv.dflt) j)) False) False) False)) False) False) False) False) False) False) False) False) False) False) False) False)) False) False) False) False) False) False) False) False) False) False) False) False)) False) False) False) False) False)
 False) False) False) False) False) False) False)) False) False) False) False) False) False) False) False) False) False) False) False)) False) False) False) False) False) False) False) False) False) False) (zz (ZV Row q39) (zz (zj q40 != iZ) (j2 ∧ q1 ∧ kI ∧ zj q40 = Zn s) (j2 ∧ (True ∧ zc q39 (AV.xl false 5 (lN (yS s)) fun i j => zv.enc (gD (yS s) i zv.dflt) j)) ∧ kI ∧ iZ = Zn s)) False)) := by
 delta kI j2 lZ lN gD iZ iO aI
 dsimp only
 intro hb
 have e2 : (zv.dflt : Row) = r0 := rfl
 simp only [↓XG, ↓xJ, row_one]
 simp only [sS, zJ, zm, zM, zQ, yn, ZQ, X4, yO, w8, yA, wC, yb, yB, Zj, e2]
 refine ⟨fun h => ?_, fun hl => ⟨⟨⟨s, []⟩, ⟨⟨Nat.le_refl _, ?_⟩, rfl, rfl⟩, rfl⟩, fun z hz => ⟨fun h0 => ?_, fun h0 => ?_⟩⟩⟩
 ·have e := W3 h
  exact ⟨rfl, ud (by rw [e]; decide), e.symm⟩
 ·cases xk s <;> rfl
 ·obtain ⟨zs, out⟩ := z
  have hz1 := hz.l
  simp only at h0 hz1 ⊢
  have ne : zs ≠ [] := fun e => by subst e; simp at h0
  have bad : Z0 zs = none → 2 = [AV.junk, AV.junk].length ∧ (yS s).length = 0 ∧ 3 = Zn s := fun h => ⟨rfl, hz.bad hl ne h⟩
  refine pE (e := 32) rfl (by omega) (fun q => bad (by unfold Z0; rw [q]; rfl)) fun q1 l1 => ?_
  generalize List.drop ((zd zs : Int) + 1).toNat zs = d1 at q1 l1 ⊢
  refine pE (e := 32) rfl l1 (fun q => bad (by unfold Z0; simp only [Option.bind_eq_bind, q1, Option.bind_some, q]; rfl)) fun q2 l2 => ?_
  generalize List.drop ((zd d1 : Int) + 1).toNat d1 = d2 at q2 l2 ⊢
  refine pE (e := 32) rfl l2 (fun q => bad (by unfold Z0; simp only [Option.bind_eq_bind, q1, q2, Option.bind_some, q]; rfl)) fun q3 l3 => ?_
  generalize List.drop ((zd d2 : Int) + 1).toNat d2 = d3 at q3 l3 ⊢
  refine pE (e := 32) rfl l3 (fun q => bad (by unfold Z0; simp only [Option.bind_eq_bind, q1, q2, q3, Option.bind_some, q]; rfl)) fun q4 l4 => ?_
  generalize List.drop ((zd d3 : Int) + 1).toNat d3 = d4 at q4 l4 ⊢
  refine pE (e := 10) rfl l4 (fun q => bad (by unfold Z0; simp only [Option.bind_eq_bind, q1, q2, q3, q4, Option.bind_some, q]; rfl)) fun q5 l5 => ?_
  generalize List.drop ((zd d4 : Int) + 1).toNat d4 = d5 at q5 l5 ⊢
  have hr : Z0 zs = some (⟨yw zs, yw d1, yw d2, yw d3, yw d4⟩, d5) := by unfold Z0; simp only [Option.bind_eq_bind, q1, q2, q3, q4, q5, Option.bind_some]; rfl
  obtain ⟨n1, n2⟩ := hz.next hr
  refine ⟨by omega, ⟨d5, out ++ [⟨yw zs, yw d1, yw d2, yw d3, yw d4⟩]⟩, ⟨⟨n1, n2⟩, rfl, by simp⟩, by simp, fun i j hi hj => ?_⟩
  simp only
  by_cases h3 : i < out.length
  ·rw [if_pos h3, List.getD_eq_getElem?_getD, List.getD_eq_getElem?_getD, List.getElem?_append_left h3]
   exact zY _
  ·rw [if_neg h3, List.getD_eq_getElem?_getD, List.getElem?_append_right (by omega), show i - out.length = 0 by omega]
   exact zY _
 ·obtain ⟨zs, out⟩ := z
  simp only at h0 ⊢
  obtain rfl : zs = [] := List.eq_nil_of_length_eq_zero (by omega)
  obtain ⟨e, e1⟩ := hz.end_ hl
  refine ⟨fun h => ⟨rfl, ud (by rw [e]; exact h), e.symm⟩, fun h => ⟨rfl, ?_, by rw [e, h]⟩⟩
  rw [e1 h]
  exact zY _
def rq : List AV → Option (List zS × AV)
 | [.str s] => some ([.p (s.length ≤ 4294967280)], .tup 2 (zU [yI (yS s), .i (Zn s)]))
 | _ => none
theorem PR : zn Tryz.prog [] 30 rq := by
 intro xs ps r h hp
 unfold rq at h
 split at h
 ·rename_i s
  cases h
  have q1 : s.length ≤ 4294967280 := hp (.p (s.length ≤ 4294967280)) (by simp)
  exact zt (T := (T0.plus 82 Tw).plus 20 YT) (an := Qe s) mixed (zZ.plus (zZ.plus zR QE) xC) (Eq.mp (by kernel_rfl) (Qa s q1))
 ·cases h
end Go.Te

namespace Go.Te
open Go Go.Sx Go.Proofs Go.Ar Go.RowKit
set_option maxRecDepth 100000
set_option maxHeartbeats 4000000
def pn (l : List Row) : Bool := zl 12 (l.length : Int) && leB (l.length : Int) 4096 || zl 4098 (l.length : Int)
def uy : List AV → Option (List zS × AV)
 | [x_l] => some ([.b (ZV Row x_l)], .b (pn (wF (α := Row) x_l)))
 | _ => none
theorem Sj (l : List Row) :
 let q2 := (zl (12 : Int) (lZ l)); let q1 := (!zy true q2 || zy true q2); let q4 := (bif zl (12 : Int) (lZ l) then leB (lZ l) (4096 : Int) else false); let q3 := (!zy false q4 || zy false q4); Zo [AV.xl false 5 (lN l) fun i j => zv.enc (gD l i zv.dflt) j] → zz q1 (zz q1 (zz (!zl (12 : Int) (lZ l) || zy true q2) (zz q3 (zz q3 (zz ((!!bif zl (12 : Int) (lZ l) then leB (lZ l) (4096 : Int) else false) || zy false q4) ((bif bif zl (12
 : Int) (lZ l) then leB (lZ l) (4096 : Int) else false then true else zl (4098 : Int) (lZ l)) = pn l) False) False) False) False) False) False := by
 delta lZ lN gD
 dsimp only
 intro hb
 have e2 : (zv.dflt : Row) = r0 := rfl
 simp only [sS, zJ, zm, zM, zQ, yn, ZQ, X4, yO, w8, yA, wC, yb, yB, Zj, e2]
 rfl
theorem qx (l : List Row) : zW Tryz.prog [] 27 [yI l] (.b (pn l)) :=
 zt (T := T0) (an := .auto) mixed zR (Eq.mp (by kernel_rfl) (Sj l))
theorem Ri : zn Tryz.prog [] 27 uy := by
 intro xs ps r h hp
 unfold uy at h
 split at h
 ·skip
  rename_i x_l
  cases h
  obtain ⟨q0, -⟩ := Yc hp
  exact weaken (ys := [yI (wF (α := Row) x_l)]) ⟨zH q0, trivial⟩ (qx (wF (α := Row) x_l))
 ·cases h
def qe (l : List Row) : Z8 :=
 .two .auto (.two .auto (.two (.two .auto (.one (.loop Nat (fun σ z => [(0, σ.tm 0), (4, .i z)]) (fun σ z => []) 0 (fun σ z => z ≤ l.length ∧ (l.drop z).any (Z1 l) = l.any (Z1 l)) (fun σ z => l.length - z) .auto))) .auto))
def tP : List AV → Option (List zS × AV)
 | [x_l] => some ([.b (ZV Row x_l)], .tup 2 (zU [.b (Zm (wF (α := Row) x_l)), .i (ZF (wF (α := Row) x_l))]))
 | _ => none
theorem R0 (l : List Row) :
 let q2 := (AV.xl false 5 (lN l) fun i j => zv.enc (gD l i zv.dflt) j); let q1 := (ZV Row q2); let q3 := (rowsOf q2); Zo [AV.xl false 5 (lN l) fun i j => zv.enc (gD l i zv.dflt) j] → zz q1 (zz (zj q3 != iZ) (j2 ∧ (True ∧ false = Zm l) ∧ kI ∧ iO = ZF l) ((∃ (z : Nat), ((z ≤ lN l ∧ List.any (List.drop z l) (Z1 l) = List.any l (Z1 l)) ∧ zc q2 q2 ∧ kI ∧ iZ = (↑z : Int)) ∧ True) ∧ ∀ (z : Nat), let q4 := (DB.db (iZ ≤ (↑z : Int) ∧ (↑z : Int) <
 (lZ l))); let q5 := (gD l (Int.toNat (↑z : Int)) zv.dflt); z ≤ lN l ∧ List.any (List.drop z l) (Z1 l) = List.any l (Z1 l) → zz (zl (↑z : Int) (lZ l)) (zz q4 (zz q4 (zz q4 (zz q4 (zz q4 (zz q1 (zz (zl (Row.n q5) (YU q3 (Row.w q5) (Row.d q5) (Row.s q5) (Row.q q5))) (j2 ∧ (True ∧ false = Zm l) ∧ kI ∧ iZ = ZF l) (zz (DB.db (ZG .i64 ((↑z : Int) + iO))) (∃ (z' : Nat), (((z' ≤ lN l ∧ List.any (List.drop z' l) (Z1 l) = List.any l
 (Z1 l)) ∧ lN l - z' < lN l - z) ∧ zc q2 q2 ∧ kI ∧ (↑z : Int) + iO = (↑z' : Int)) ∧ True) False)) False) False) False) False) False) False) (j2 ∧ (True ∧ true = Zm l) ∧ kI ∧ iZ = ZF l))) False := by
 delta kI j2 lZ lN gD iZ iO
 dsimp only
 intro hb
 have e2 : (zv.dflt : Row) = r0 := rfl
 simp only [sS, zJ, zm, zM, zQ, yn, ZQ, X4, yO, w8, yA, wC, yb, yB, Zj, e2]
 have mv : zj l = 0 → Zm l = !l.any (Z1 l) ∧ ZF l = 0 := fun h => by
  unfold Zm ZF
  rw [h]
  exact ⟨rfl, rfl⟩
 refine ⟨fun h => ⟨rfl, by unfold Zm; rw [bne_iff_ne.2 h]; rfl, by unfold ZF; rw [bne_iff_ne.2 h]; rfl⟩, fun h => ⟨⟨0, ⟨Nat.zero_le _, rfl⟩, rfl⟩, fun z ⟨z1, z2⟩ => ⟨fun hz => ?_, fun hz => ?_⟩⟩⟩
 ·have hz' : z < l.length := by omega
  have hl : l.length ≤ 9223372036854775807 := hb.1
  rw [getD_drop (d := r0) hz', List.any_cons] at z2
  refine ⟨⟨by omega, hz⟩, ⟨by omega, hz⟩, ⟨by omega, hz⟩, ⟨by omega, hz⟩, ⟨by omega, hz⟩, fun hc => ?_, fun hc => ?_⟩
  ·have hk : Z1 l (l.getD z r0) = true := by unfold Z1; exact (zK _ _).2 hc
   rw [hk, Bool.true_or] at z2
   rw [(mv h).1, (mv h).2, ← z2]
   exact ⟨rfl, rfl, rfl⟩
  ·have hk : Z1 l (l.getD z r0) = false := by unfold Z1; exact Bool.eq_false_iff.2 fun e => by have := (zK _ _).1 e; omega
   rw [hk, Bool.false_or] at z2
   exact ⟨by simp only [ZG]; omega, z + 1, ⟨⟨by omega, z2⟩, by omega⟩, by omega⟩
 ·rw [show z = l.length by omega, List.drop_length] at z2
  rw [(mv h).1, (mv h).2, ← z2]
  exact ⟨rfl, rfl, rfl⟩
theorem pR (l : List Row) : zW Tryz.prog [] 28 [yI l] (.tup 2 (zU [.b (Zm l), .i (ZF l)])) :=
 zt (T := (T0.plus 20 YT).plus 80 Tx) (an := qe l) mixed (zZ.plus (zZ.plus zR xC) Qo) (Eq.mp (by kernel_rfl) (R0 l))
theorem Q5 : zn Tryz.prog [] 28 tP := by
 intro xs ps r h hp
 unfold tP at h
 split at h
 ·skip
  rename_i x_l
  cases h
  obtain ⟨q0, -⟩ := Yc hp
  exact weaken (ys := [yI (wF (α := Row) x_l)]) ⟨zH q0, trivial⟩ (pR (wF (α := Row) x_l))
 ·cases h
def RG (a b : List Row) : Z8 :=
 .two .auto (.two .auto (.two (.two .auto (.one (.loop Nat (fun σ z => [(0, σ.tm 0), (1, σ.tm 1), (5, .i z)]) (fun σ z => []) 0 (fun σ z => z ≤ a.length ∧ ∀ i, i < z → a.getD i r0 = b.getD i r0) (fun σ z => a.length - z) .auto))) .auto))
theorem Ra (a b : List Row) :
 let q1 := (AV.xl false 5 (lN a) fun i j => zv.enc (gD a i zv.dflt) j); let q2 := (AV.xl false 5 (lN b) fun i j => zv.enc (gD b i zv.dflt) j); Zo [AV.xl false 5 (lN a) fun i j => zv.enc (gD a i zv.dflt) j, AV.xl false 5 (lN b) fun i j => zv.enc (gD b i zv.dflt) j] → zz ((lZ a) != (lZ b)) (false = (a == b)) ((∃ (z : Nat), ((z ≤ lN a ∧ ∀ (i : Nat), i < z → gD a i r0 = gD b i r0) ∧ zc q1 q1 ∧ zc q2 q2 ∧ kI ∧ iZ = (↑z : Int)) ∧ True) ∧ ∀ (z
 : Nat), let q3 := (gD a (Int.toNat (↑z : Int)) zv.dflt); let q4 := (gD b (Int.toNat (↑z : Int)) zv.dflt); (z ≤ lN a ∧ ∀ (i : Nat), i < z → gD a i r0 = gD b i r0) → zz (zl (↑z : Int) (lZ a)) (zz (DB.db (iZ ≤ (↑z : Int) ∧ (↑z : Int) < (lZ a))) (zz (DB.db (iZ ≤ (↑z : Int) ∧ (↑z : Int) < (lZ b))) (zz (!(Row.w q3 == Row.w q4 && (Row.d q3 == Row.d q4 && (Row.s q3 == Row.s q4 && (Row.q q3 == Row.q q4 && (Row.n q3 == Row.n q4 && true)))))) (false = (a == b)) (zz (DB.db (ZG
 .i64 ((↑z : Int) + iO))) (∃ (z' : Nat), (((z' ≤ lN a ∧ ∀ (i : Nat), i < z' → gD a i r0 = gD b i r0) ∧ lN a - z' < lN a - z) ∧ zc q1 q1 ∧ zc q2 q2 ∧ kI ∧ (↑z : Int) + iO = (↑z' : Int)) ∧ True) False)) False) False) (true = (a == b))) := by
 delta kI lZ lN gD iZ iO
 dsimp only
 intro hb
 have e2 : (zv.dflt : Row) = r0 := rfl
 simp only [sS, zJ, zm, zM, zQ, yn, ZQ, X4, yO, w8, yA, wC, yb, yB, Zj, e2]
 have sm : ∀ z, ((a.getD z r0).w == (b.getD z r0).w && ((a.getD z r0).d == (b.getD z r0).d && ((a.getD z r0).s == (b.getD z r0).s && ((a.getD z r0).q == (b.getD z r0).q && ((a.getD z r0).n == (b.getD z r0).n && true))))) = true ↔ a.getD z r0 = b.getD z r0 := fun z => by
  simp only [Bool.and_eq_true, beq_iff_eq, and_true]
  constructor
  ·rintro ⟨h1, h2, h3, h4, h5⟩
   cases ha : a.getD z r0 with | mk w d s q n =>
   cases hb : b.getD z r0 with | mk w' d' s' q' n' =>
   rw [ha, hb] at h1 h2 h3 h4 h5
   simp only at h1 h2 h3 h4 h5
   subst h1 h2 h3 h4 h5
   rfl
  ·intro h; rw [h]; exact ⟨rfl, rfl, rfl, rfl, rfl⟩
 refine ⟨fun h => (beq_eq_false_iff_ne.2 fun e => h (by rw [e])).symm, fun h => ⟨⟨0, ⟨Nat.zero_le _, fun i hi => absurd hi (Nat.not_lt_zero _)⟩, rfl⟩, fun z ⟨z1, z2⟩ => ⟨fun hz => ⟨⟨by omega, hz⟩, ⟨by omega, by omega⟩, zT.2 ⟨fun h3 => ?_, fun h3 => ?_⟩⟩, fun hz => ?_⟩⟩⟩
 ·refine (beq_eq_false_iff_ne.2 fun e => ?_).symm
  rw [(sm z).2 (by rw [e])] at h3
  cases h3
 ·have h5 : a.getD z r0 = b.getD z r0 := (sm z).1 (by simpa using h3)
  have h4 : a.length ≤ 9223372036854775807 := hb.1.1
  refine ⟨by simp only [ZG]; omega, z + 1, ⟨⟨by omega, fun i hi => ?_⟩, by omega⟩, by omega⟩
  by_cases e : i = z
  ·rw [e]; exact h5
  ·exact z2 i (by omega)
 ·refine (beq_iff_eq.2 (List.ext_getElem (by omega) fun i h1 h2 => ?_)).symm
  have := z2 i (by omega)
  rw [List.getD_eq_getElem?_getD, List.getD_eq_getElem?_getD, List.getElem?_eq_getElem h1, List.getElem?_eq_getElem h2] at this
  exact this
def tD : List AV → Option (List zS × AV)
 | [x, y] => some ([.b (ZV Row x), .b (ZV Row y)], .b (rowsOf x == rowsOf y))
 | _ => none
theorem Qs : zn Tryz.prog [] 31 tD := by
 intro xs ps r h hp
 unfold tD at h
 split at h
 ·rename_i x y
  cases h
  obtain ⟨q0, q1, -⟩ := Yc hp
  exact weaken (ys := [yI (rowsOf x), yI (rowsOf y)]) ⟨zH q0, zH q1, trivial⟩ (zt (T := T0) (an := RG (rowsOf x) (rowsOf y)) mixed zR (Eq.mp (by kernel_rfl) (Ra (rowsOf x) (rowsOf y))))
 ·cases h
noncomputable def Pe (G : List (Nat × Obj)) : Tb := (((((((((((SJ G).plus 27 uy).plus 21 tV).plus 28 tP).plus 23 Rc).plus 29 RS).plus 22 qK).plus 30 rq).plus 24 YM).plus 20 YT).plus 31 tD).plus 13 (Wz [] (.b true))
theorem sC {G : List (Nat × Obj)} (hG : xN G) : zZ Tryz.prog (Pe G) :=
 zZ.plus (zZ.plus (zZ.plus (zZ.plus (zZ.plus (zZ.plus (zZ.plus (zZ.plus (zZ.plus (zZ.plus (zZ.plus zR (zn.mono Ri)) (zn.mono Qn)) (zn.mono Q5)) (p6 hG.tab)) (pF hG.tab)) (PU hG)) (zn.mono PR)) (zn.mono xB)) (zn.mono xC)) (zn.mono Qs)) (Xn (Td hG.tab))
theorem Qd (G : List (Nat × Obj)) (l : List Row) (s : zp) :
 let q2 := (AV.xl false 5 (lN l) fun i j => zv.enc (gD l i zv.dflt) j); let q1 := (ZV Row q2); let q5 := (wF q2); let q4 := (pn q5); let q3 := (!zy false q4 || zy false q4); let q8 := (rowsOf q2); let q7 := (zj q8 == zj q8); let q6 := (!zy true q7 || zy true q7); let q10 := (bif zj q8 == zj q8 then Zm q8 == Zm q5 else false); let q9 := (!zy true q10 || zy true q10); let q12 := (bif bif zj q8 == zj q8 then Zm q8 == Zm q5 else false then ZF q8 == ZF q5 else false); let q11 := (!zy true q12 || zy true q12); let q14 := (bif bif bif zj
 q8 == zj q8 then Zm q8 == Zm q5 else false then ZF q8 == ZF q5 else false then y9 q8 == y9 q5 else false); let q13 := (!zy true q14 || zy true q14); let q16 := (bif bif bif bif zj q8 == zj q8 then Zm q8 == Zm q5 else false then ZF q8 == ZF q5 else false then y9 q8 == y9 q5 else false then yp q8 == yp q5 else false); let q15 := (!zy true q16 || zy true q16); let q18 := (AV.xl false 5 (lN (yS s)) fun i j => zv.enc (gD (yS s) i zv.dflt) j); let q17 := (!zy true q16 || ZV Row q18); let q20 := (bif bif bif bif bif zj q8 == zj q8 then
 Zm q8 == Zm q5 else false then ZF q8 == ZF q5 else false then y9 q8 == y9 q5 else false then yp q8 == yp q5 else false then rowsOf q18 == rowsOf q18 else false); let q19 := (!zy true q20 || zy true q20); let q21 := (bif bif bif bif bif bif zj q8 == zj q8 then Zm q8 == Zm q5 else false then ZF q8 == ZF q5 else false then y9 q8 == y9 q5 else false then yp q8 == yp q5 else false then rowsOf q18 == rowsOf q18 else false then Zn s == Zn s else false); Zo [AV.xl false 5 (lN l) fun i j => zv.enc (gD l i zv.dflt) j, AV.str s] → zz q1 (zz
 q3 (zz q3 (zz (!!pn q5 || zy false q4) (zz (bif pn q5 then true else zl (300 : Int) (lZ s)) (Wk [] [] ∧ true = true) (zz q1 (zz q1 (zz q1 (zz q1 (lN s ≤ 4294967280 ∧ zz q1 (zz q1 (zz q6 (zz q6 (zz (!zj q8 == zj q8 || zy true q7) (zz q9 (zz q9 (zz ((!bif zj q8 == zj q8 then Zm q8 == Zm q5 else false) || zy true q10) (zz q11 (zz q11 (zz ((!bif bif zj q8 == zj q8 then Zm q8 == Zm q5 else false then ZF q8 == ZF q5 else false) || zy true q12) (zz q13 (zz q13
 (zz ((!bif bif bif zj q8 == zj q8 then Zm q8 == Zm q5 else false then ZF q8 == ZF q5 else false then y9 q8 == y9 q5 else false) || zy true q14) (zz q15 (zz q15 (zz q17 (zz q17 (zz ((!bif bif bif bif zj q8 == zj q8 then Zm q8 == Zm q5 else false then ZF q8 == ZF q5 else false then y9 q8 == y9 q5 else false then yp q8 == yp q5 else false) || zy true q16) (zz q19 (zz q19 (zz ((!bif bif bif bif bif zj q8 == zj q8 then Zm q8 == Zm q5 else false then ZF q8 == ZF q5 else false then y9 q8 == y9 q5 else false then yp q8
 == yp q5 else false then rowsOf q18 == rowsOf q18 else false) || zy true q20) ((zy true q21 = true → Wk [] []) ∧ zz ((!bif bif bif bif bif bif zj q8 == zj q8 then Zm q8 == Zm q5 else false then ZF q8 == ZF q5 else false then y9 q8 == y9 q5 else false then yp q8 == yp q5 else false then rowsOf q18 == rowsOf q18 else false then Zn s == Zn s else false) || zy true q21) ((bif bif bif bif bif bif bif zj q8 == zj q8 then Zm q8 == Zm q5 else false then ZF q8 == ZF q5 else false then y9 q8 == y9 q5 else false then yp q8 == yp q5 else false then rowsOf q18
 == rowsOf q18 else false then Zn s == Zn s else false then true else false) = true) False) False) False) False) False) False) False) False) False) False) False) False) False) False) False) False) False) False) False) False) False) False) False) False) False) False) False)) False) False) False) False := by
 delta lZ lN gD
 dsimp only
 intro hb
 have e2 : (zv.dflt : Row) = r0 := rfl
 simp only [sS, zJ, zm, zM, zQ, yn, ZQ, X4, yO, w8, yA, wC, yb, yB, Zj, e2]
 refine zT.2 ⟨fun _ => Wk.refl _, fun hg => ?_⟩
 rw [Bool.or_eq_false_iff] at hg
 have hs : ¬ (300 : Int) < (s.length : Int) := fun e => by rw [(zK _ _).2 e] at hg; cases hg.2
 exact ⟨by omega, fun _ => Wk.refl _, by simp⟩
theorem pk {G : List (Nat × Obj)} (hG : xN G) (l : List Row) (s : zp) : zW Tryz.prog G 8 [yI l, .str s] (.b true) :=
 zt (T := Pe G) (an := .auto) mixed (sC hG) (Eq.mp (by kernel_rfl) (Qd G l s))
end Go.Te
