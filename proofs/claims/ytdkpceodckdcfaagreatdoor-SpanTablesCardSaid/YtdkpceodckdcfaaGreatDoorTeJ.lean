/- kingpostref01: two small integers, writing, the greatest common divisor. -/
import Derived.Test.YtdkpceodckdcfaaGreatDoorTeI
import Derived.Test.YtdkpceodckdcfaaGreatDoorArN
import Derived.Test.YtdkpceodckdcfaaGreatDoorTeA
import Derived.Shelf.Strconv.Itoa3
import Derived.Shelf.Strings.Search2
import Derived.Shelf.LaysM
import Derived.Test.YtdkpceodckdcfaaGreatDoorProg
import Derived.Test.YtdkpceodckdcfaaGreatDoorSxS
import Derived.Shelf.Strconv.Atoi
import Derived.Shelf.Strings.SlTrimAscii
import Derived.Shelf.Strings.Prefix
import Derived.Test.YtdkpceodckdcfaaGreatDoorArI
set_option linter.unusedSimpArgs false
set_option linter.unusedVariables false
namespace Go.Te
open Go Go.Sx Go.Proofs Go.Ar Go.Lib
set_option maxRecDepth 100000
set_option maxHeartbeats 4000000
structure Big where
 neg : Bool
 l : List Int
instance : zv Big := ⟨2, ⟨false, []⟩, fun c => zU [.b c.neg, yI c.l], fun cs => ⟨AV.bool (cs 0), wF (cs 1)⟩, fun cs => isBool (cs 0) && ZV Int (cs 1), fun cs h j hj => by
 simp only [Bool.and_eq_true] at h
 match j, hj with
 | 0, _ => exact zF (Vn h.1)
 | 1, _ => exact zH h.2⟩
structure oJ where
 i : Nat
 out : zp
structure oN where
 j : Nat
 out : zp
end Go.Te

namespace Go.Te
open Go Go.Sx Go.Proofs Go.Ar
set_option maxRecDepth 100000
set_option maxHeartbeats 4000000
structure ov where
 i : Nat
 n : Int
def tx (l : List Row) (w d s q : Int) : Z8 :=
 .two .auto (.one (.loop Nat (fun σ z => [(0, σ.tm 0), (2, σ.tm 2), (3, σ.tm 3), (4, σ.tm 4), (5, σ.tm 5), (9, σ.tm 9), (10, σ.tm 10), (11, .i z)]) (fun _ z => [(0, .box 3 1 fun _ => .i (Zq l w d s q z))]) 0
  (fun _ z => z ≤ l.length) (fun _ z => l.length - z) .auto))
def tJ (l : List Row) (w d s q : Int) : Z8 :=
 .two .auto (.two .auto (.two (.two .auto (.one (.range (tx l w d s q) .auto .auto))) .auto))
noncomputable def Pa : Tb := T0.body Tryz.prog [(111, .auto)]
theorem SZ : zZ Tryz.prog Pa := zZ.body mixed zR _
def Xy : List AV → Option (List zS × AV)
 | [x_l, .v (.int .i64 w), .v (.int .i64 d), .v (.int .i64 s), .v (.int .i64 q)] => some ([.b (ZV Row x_l)], .i (YU (rowsOf x_l) w d s q))
 | _ => none
theorem tl (l : List Row) (w : Int) (d : Int) (s : Int) (q : Int) :
 let q1 := (AV.xl false 5 (lN l) fun i j => zv.enc (gD l i zv.dflt) j); let q2 := (kI ∧ (lZ l) = (lZ l)); Zo [AV.xl false 5 (lN l) fun i j => zv.enc (gD l i zv.dflt) j, aI w, aI d, aI s, aI q] → (∃ (z : Nat), (z ≤ lN l ∧ nat_lit 6 = 6 ∧ (nat_lit 2 = 2 ∧ 0 = 0) ∧ (nat_lit 3 = 3 ∧ 0 = 0) ∧ (nat_lit 4 = 4 ∧ 0 = 0) ∧ (nat_lit 5 = 5 ∧ 0 = 0) ∧ zc q1 q1 ∧ q2 ∧ kI ∧ iZ = (↑z : Int)) ∧ (((((((3 : TypeId) = 3
 ∧ 1 = 1 ∧ kI ∧ iZ = Zq l w d s q z) ∧ 22 = 22 ∧ 1 = 1 ∧ zc q1 q1) ∧ 3 = 3 ∧ 1 = 1 ∧ kI ∧ w = w) ∧ 3 = 3 ∧ 1 = 1 ∧ kI ∧ d = d) ∧ 3 = 3 ∧ 1 = 1 ∧ kI ∧ s = s) ∧ 3 = 3 ∧ 1 = 1 ∧ kI ∧ q = q) ∧ LoopState.ready = LoopState.ready ∧ WU Code = WU Code) ∧ ∀ (z : Nat), let q6 := (gD l (Int.toNat (↑z : Int)) zv.dflt); let q5 := (Row.w q6); let q4 := (leB q5 w); let q3 := (!zy true q4 || zy true q4); let q9 := (Row.d q6); let q8 := (bif leB q5 w then leB q9 d else false); let q7 := (!zy true q8 || zy
 true q8); let q12 := (Row.s q6); let q11 := (bif bif leB q5 w then leB q9 d else false then leB s q12 else false); let q10 := (!zy true q11 || zy true q11); let q15 := (Row.q q6); let q14 := (bif bif bif leB q5 w then leB q9 d else false then leB s q12 else false then leB q q15 else false); let q13 := (zy true q14); let q16 := ((!bif bif bif leB q5 w then leB q9 d else false then leB s q12 else false then leB q q15 else false) || zy true q14); let q17 := (if Row.n q6 > Zq l w d s q z then Row.n q6 else Zq l w d s q z); let q18 := (DB.db (ZG .i64 ((↑z : Int) + iO))); let
 q19 := (kI ∧ Zq l w d s q z = YU l w d s q); z ≤ lN l → zz (zl (↑z : Int) (lZ l)) (zz (DB.db (iZ ≤ (↑z : Int) ∧ (↑z : Int) < (lZ l))) (zz q3 (zz q3 (zz q3 (zz (!leB q5 w || zy true q4) (zz q7 (zz q7 (zz q7 (zz ((!bif leB q5 w then leB q9 d else false) || zy true q8) (zz q10 (zz q10 (zz q10 (zz ((!bif bif leB q5 w then leB q9 d else false then leB s q12 else false) || zy true q11) (zz q13 (zz q13 (zz q13 (zz (!zy true q14 || true) (zz q16
 (zz (bif bif bif bif leB q5 w then leB q9 d else false then leB s q12 else false then leB q q15 else false then !Option.isNone (WU Code) else false) (kI ∧ q17 = YU l w d s q) (zz q18 (∃ (z' : Nat), ((z' ≤ lN l ∧ lN l - z' < lN l - z) ∧ nat_lit 6 = 6 ∧ (nat_lit 2 = 2 ∧ 0 = 0) ∧ (nat_lit 3 = 3 ∧ 0 = 0) ∧ (nat_lit 4 = 4 ∧ 0 = 0) ∧ (nat_lit 5 = 5 ∧ 0 = 0) ∧ zc q1 q1 ∧ q2 ∧ kI ∧ (↑z : Int) + iO = (↑z' : Int)) ∧ ((((((3 = 3 ∧ 1 = 1 ∧ kI ∧ q17 = Zq l w d s q z') ∧ 22 = 22 ∧ 1 = 1 ∧ zc q1 q1) ∧ 3 = 3 ∧ 1
 = 1 ∧ kI ∧ w = w) ∧ 3 = 3 ∧ 1 = 1 ∧ kI ∧ d = d) ∧ 3 = 3 ∧ 1 = 1 ∧ kI ∧ s = s) ∧ 3 = 3 ∧ 1 = 1 ∧ kI ∧ q = q) ∧ LoopState.ready = LoopState.ready ∧ WU Code = WU Code) False)) False) False) False) False) (zz (!zy true q14 || false) (zz q16 (zz (bif bif bif bif leB q5 w then leB q9 d else false then leB s q12 else false then leB q q15 else false then !false else false) q19 (zz q18 (∃ (z' : Nat), ((z' ≤ lN l ∧ lN l - z' < lN l - z) ∧ nat_lit 6 = 6 ∧ (nat_lit 2 = 2 ∧ 0 = 0) ∧ (nat_lit 3 = 3
 ∧ 0 = 0) ∧ (nat_lit 4 = 4 ∧ 0 = 0) ∧ (nat_lit 5 = 5 ∧ 0 = 0) ∧ zc q1 q1 ∧ q2 ∧ kI ∧ (↑z : Int) + iO = (↑z' : Int)) ∧ ((((((3 = 3 ∧ 1 = 1 ∧ kI ∧ Zq l w d s q z = Zq l w d s q z') ∧ 22 = 22 ∧ 1 = 1 ∧ zc q1 q1) ∧ 3 = 3 ∧ 1 = 1 ∧ kI ∧ w = w) ∧ 3 = 3 ∧ 1 = 1 ∧ kI ∧ d = d) ∧ 3 = 3 ∧ 1 = 1 ∧ kI ∧ s = s) ∧ 3 = 3 ∧ 1 = 1 ∧ kI ∧ q = q) ∧ LoopState.ready = LoopState.ready ∧ WU Code = WU Code) False)) False) False)) False) False) False) False) False) False) False) False) False) False) False)
 False) False) q19 := by
 delta kI lZ lN gD iZ iO aI
 dsimp only
 intro hb
 have e2 : (zv.dflt : Row) = r0 := rfl
 simp only [sS, zJ, zm, zM, zQ, yn, ZQ, X4, yO, w8, yA, wC, yb, yB, Zj, e2]
 have hb1 : l.length ≤ 9223372036854775807 := hb.1.1
 refine ⟨⟨0, ⟨by omega, rfl⟩, rfl⟩, fun z hz => ⟨fun hlt => ⟨⟨by omega, hlt⟩, ?_⟩, fun hge => ?_⟩⟩
 ·have hs : Zq l w d s q (z + 1) = bif Wr (l.getD z r0) w d s q then (if (l.getD z r0).n > Zq l w d s q z then (l.getD z r0).n else Zq l w d s q z) else Zq l w d s q z := rfl
  have key : (leB (l.getD z r0).w w && leB (l.getD z r0).d d && leB s (l.getD z r0).s && leB q (l.getD z r0).q) = Wr (l.getD z r0) w d s q := rfl
  rw [key]
  cases he : Wr (l.getD z r0) w d s q with
  | true =>
   rw [he] at hs
   simp only [Bool.true_and, TG]
   rw [show (!(WU Code).isNone) = false from rfl, SU]
   exact ⟨⟨by omega, by omega⟩, z + 1, ⟨⟨by omega, by omega⟩, by omega⟩, hs.symm⟩
  | false =>
   rw [he] at hs
   simp only [Bool.false_and, SU, Bool.not_false, Bool.true_or, TG]
   exact ⟨⟨by omega, by omega⟩, z + 1, ⟨⟨by omega, by omega⟩, by omega⟩, hs.symm⟩
 ·rw [show z = l.length by omega]; rfl
theorem VY (l : List Row) (w : Int) (d : Int) (s : Int) (q : Int) : zW Tryz.prog [] 58 [yI l, .i w, .i d, .i s, .i q] (.i (YU l w d s q)) :=
 zt (T := Pa) (an := tJ l w d s q) mixed SZ (Eq.mp (by kernel_rfl) (tl l w d s q))
theorem vE : zn Tryz.prog [] 58 Xy := by
 intro xs ps r h hp
 unfold Xy at h
 split at h
 ·skip
  rename_i x_l w d s q
  cases h
  obtain ⟨q0, -⟩ := Yc hp
  exact weaken (ys := [yI (rowsOf x_l), .i w, .i d, .i s, .i q]) ⟨zH q0, zY _, zY _, zY _, zY _, trivial⟩ (VY (rowsOf x_l) w d s q)
 ·cases h
def S4 : List AV → Option (List zS × AV)
 | [x_l, .v (.int .i64 w), .v (.int .i64 d), .v (.int .i64 s), .v (.int .i64 q)] => some ([.b (ZV Row x_l)], .i (vX (rowsOf x_l) w d s q))
 | _ => none
theorem Qr (l : List Row) (w : Int) (d : Int) (s : Int) (q : Int) :
 Zo [AV.xl false 5 (lN l) fun i j => zv.enc (gD l i zv.dflt) j, aI w, aI d, aI s, aI q] → zz (ZV Row (AV.xl false 5 (lN l) fun i j => zv.enc (gD l i zv.dflt) j)) (zz (zj (rowsOf (AV.xl false 5 (lN l) fun i j => zv.enc (gD l i zv.dflt) j)) != iZ) (kI ∧ iO = vX l w d s q) (zz (!Zf w d s q) (kI ∧ (2 : Int) = vX l w d s q) (kI ∧ iZ = vX l w d s q))) False := by
 delta kI lN gD iZ iO aI
 intro hb
 have e2 : (zv.dflt : Row) = r0 := rfl
 simp only [sS, zJ, zm, zM, zQ, yn, ZQ, X4, yO, w8, yA, wC, yb, yB, Zj, e2]
 unfold vX
 refine ⟨fun h => by rw [bne_iff_ne.2 h]; rfl, fun h => ?_⟩
 rw [h]
 cases Zf w d s q <;> rfl
theorem SD (l : List Row) (w : Int) (d : Int) (s : Int) (q : Int) : zW Tryz.prog [] 55 [yI l, .i w, .i d, .i s, .i q] (.i (vX l w d s q)) :=
 zt (T := ((T0.plus 24 YM).plus 74 X2)) (an := .auto) mixed (zZ.plus (zZ.plus zR xB) UH) (Eq.mp (by kernel_rfl) (Qr l w d s q))
theorem Pr : zn Tryz.prog [] 55 S4 := by
 intro xs ps r h hp
 unfold S4 at h
 split at h
 ·skip
  rename_i x_l w d s q
  cases h
  obtain ⟨q0, -⟩ := Yc hp
  exact weaken (ys := [yI (rowsOf x_l), .i w, .i d, .i s, .i q]) ⟨zH q0, zY _, zY _, zY _, zY _, trivial⟩ (SD (rowsOf x_l) w d s q)
 ·cases h
theorem qT (l : List Row) (w : Int) (d : Int) (s : Int) (q : Int) :
 let q2 := (AV.xl false 5 (lN l) fun i j => zv.enc (gD l i zv.dflt) j); let q1 := (ZV Row q2); let q3 := (rowsOf q2); let q4 := (True ∧ kI ∧ iZ = vP l w d s q); Zo [AV.xl false 5 (lN l) fun i j => zv.enc (gD l i zv.dflt) j, aI w, aI d, aI s, aI q] → zz q1 (zz (vX q3 w d s q != iZ) (j2 ∧ q4 ∧ kI ∧ vX q3 w d s q = xu l w d s q) (zz q1 (zz (YU q3 w d s q == iZ) (2 =
 lN [AV.junk, AV.junk] ∧ q4 ∧ kI ∧ (25 : Int) = xu l w d s q) (j2 ∧ (True ∧ kI ∧ YU q3 w d s q = vP l w d s q) ∧ kI ∧ iZ = xu l w d s q)) False)) False := by
 delta kI j2 lN gD iZ aI
 dsimp only
 intro hb
 have e2 : (zv.dflt : Row) = r0 := rfl
 simp only [sS, zJ, zm, zM, zQ, yn, ZQ, X4, yO, w8, yA, wC, yb, yB, Zj, e2]
 refine ⟨fun h => ?_, fun h => ⟨fun h2 => ?_, fun h2 => ?_⟩⟩
 ·have e : xu l w d s q = vX l w d s q := by unfold xu; rw [bne_iff_ne.2 h]; rfl
  exact ⟨rfl, by unfold vP; rw [e, beq_false_of_ne h]; rfl, e.symm⟩
 ·have e : xu l w d s q = 25 := by unfold xu; rw [h, h2]; rfl
  exact ⟨rfl, by unfold vP; rw [e]; rfl, e.symm⟩
 ·have e : xu l w d s q = 0 := by unfold xu; rw [h, beq_false_of_ne h2]; rfl
  exact ⟨rfl, by unfold vP; rw [e]; rfl, e.symm⟩
theorem QJ (l : List Row) (w : Int) (d : Int) (s : Int) (q : Int) : zW Tryz.prog [] 16 [yI l, .i w, .i d, .i s, .i q] (.tup 2 (zU [.i (vP l w d s q), .i (xu l w d s q)])) :=
 zt (T := ((T0.plus 55 S4).plus 58 Xy)) (an := .auto) mixed (zZ.plus (zZ.plus zR Pr) vE) (Eq.mp (by kernel_rfl) (qT l w d s q))
def Z1 (l : List Row) (x : Row) : Bool := zl x.n (YU l x.w x.d x.s x.q)
def Tz : List AV → Option (List zS × AV)
 | [x_x, .xq 1 c_l 0] => some ([.b (Y2 Row x_x), .b (ZV Row (c_l 0))], .b (Z1 (rowsOf (c_l 0)) (Yo (α := Row) x_x)))
 | _ => none
theorem qI (x : Row) (l : List Row) :
 let q1 := (AV.xl false 5 (lN l) fun i j => zv.enc (gD l i zv.dflt) j); Zo [AV.agg 5 (zv.enc x), AV.xq 1 (fun (x : Nat) => AV.xl false 5 (lN l) fun i j => zv.enc (gD l i zv.dflt) j) 0] → zz (ZV Row q1) (zl (Row.n x) (YU (rowsOf q1) (Row.w x) (Row.d x) (Row.s x) (Row.q x)) = Z1 l x) False := by
 delta lN gD
 dsimp only
 intro hb
 have e2 : (zv.dflt : Row) = r0 := rfl
 simp only [sS, zJ, zm, zM, zQ, yn, ZQ, X4, yO, w8, yA, wC, yb, yB, Zj, e2]
 rfl
theorem pX (x : Row) (l : List Row) : zW Tryz.prog [] 65 [wV x, .xq 1 (fun _ => yI l) 0] (.b (Z1 l x)) :=
 zt (T := T0.plus 58 Xy) (an := .auto) mixed (zZ.plus zR vE) (Eq.mp (by kernel_rfl) (qI x l))
theorem QD : zn Tryz.prog [] 65 Tz := by
 intro xs ps r h hp
 unfold Tz at h
 split at h
 ·skip
  rename_i x_x c_l
  cases h
  obtain ⟨q0, q1, -⟩ := Yc hp
  exact weaken (ys := [wV (Yo (α := Row) x_x), .xq 1 (fun _ => yI (rowsOf (c_l 0))) 0]) ⟨ZI q0, ⟨rfl, rfl, zH q1⟩, trivial⟩ (pX (Yo (α := Row) x_x) (rowsOf (c_l 0)))
 ·cases h
def Pq (l : List Row) : AV := .fn (.func 65) 0 (fun _ => .junk) 1 (fun _ => .xq 1 (fun _ => yI l) 0)
theorem qU (l m : List Row) :
 let q1 := (AV.xl false 5 (lN l) fun i j => zv.enc (gD l i zv.dflt) j); let q2 := (AV.fn (Fn.func (65 : FuncId)) 0 (fun (x : Nat) => AV.junk) 1 fun (x : Nat) => AV.xq 1 (fun (x : Nat) => AV.xl false 5 (lN m) fun i j => zv.enc (gD m i zv.dflt) j) 0); let q3 := (kI ∧ (lZ l) = (lZ l)); let q4 := (AV.xl false 5 (lN m) fun i j => zv.enc (gD m i zv.dflt) j); Zo [AV.xl false 5 (lN l) fun i j => zv.enc (gD l i zv.dflt) j, AV.fn (Fn.func (65 : FuncId)) 0 (fun (x : Nat) => AV.junk)
 1 fun (x : Nat) => AV.xq 1 (fun (x : Nat) => AV.xl false 5 (lN m) fun i j => zv.enc (gD m i zv.dflt) j) 0] → (∃ (z : Nat), ((z ≤ lN l ∧ xt (Z1 m) (List.drop z l) z = xt (Z1 m) l 0) ∧ zc q1 q1 ∧ zc q2 q2 ∧ zc q1 q1 ∧ q3 ∧ kI ∧ iZ = (↑z : Int)) ∧ True) ∧ ∀ (z : Nat), z ≤ lN l ∧ xt (Z1 m) (List.drop z l) z = xt (Z1 m) l 0 → zz (zl (↑z : Int) (lZ l)) (zz (DB.db (iZ ≤ (↑z : Int) ∧ (↑z : Int) < (lZ l))) (zz (ZV Row q4) (zz (Z1 (rowsOf q4) (Yo (AV.agg 5 fun (i
 : Nat) => zv.enc (gD l (Int.toNat (↑z : Int)) zv.dflt) (0 + i)))) (kI ∧ (↑z : Int) = xt (Z1 m) l 0) (zz (DB.db (ZG .i64 ((↑z : Int) + iO))) (∃ (z' : Nat), (((z' ≤ lN l ∧ xt (Z1 m) (List.drop z' l) z' = xt (Z1 m) l 0) ∧ lN l - z' < lN l - z) ∧ zc q1 q1 ∧ zc q2 q2 ∧ zc q1 q1 ∧ q3 ∧ kI ∧ (↑z : Int) + iO = (↑z' : Int)) ∧ True) False)) False) False) (kI ∧ (-1 : Int) = xt (Z1 m) l 0) := by
 delta kI lZ lN gD iZ iO
 dsimp only
 intro hb
 have hl : l.length ≤ 9223372036854775807 := hb.1.1
 have e2 : (zv.dflt : Row) = r0 := rfl
 simp only [sS, zJ, zm, zM, zQ, yn, ZQ, X4, yO, w8, yA, wC, yb, yB, Zj, e2]
 refine ⟨⟨0, ⟨by omega, rfl⟩, rfl⟩, fun z ⟨h1, h2⟩ => ⟨fun hz => ⟨by omega, (zT (t := Z1 m (l.getD z r0))).2 ⟨fun hp => ?_, fun hp => ?_⟩⟩, fun hz => ?_⟩⟩
 ·rw [getD_drop (d := r0) (by omega), xt, hp] at h2; exact h2
 ·rw [getD_drop (d := r0) (by omega), xt, hp] at h2
  exact ⟨by simp only [ZG]; omega, z + 1, ⟨⟨by omega, h2⟩, by omega⟩, by omega⟩
 ·rw [show z = l.length by omega, List.drop_length] at h2; exact h2
theorem Q0 (l m : List Row) : zW Tryz.prog [] 61 [yI l, Pq m] (.i (xt (Z1 m) l 0)) :=
 zt (T := T0.plus 65 Tz) (an := QN l (Z1 m)) mixed (zZ.plus zR QD) (Eq.mp (by kernel_rfl) (qU l m))
theorem qp (l m : List Row) :
 Zo [AV.xl false 5 (lN l) fun i j => zv.enc (gD l i zv.dflt) j, AV.fn (Fn.func (65 : FuncId)) 0 (fun (x : Nat) => AV.junk) 1 fun (x : Nat) => AV.xq 1 (fun (x : Nat) => AV.xl false 5 (lN m) fun i j => zv.enc (gD m i zv.dflt) j) 0] → Wk [AV.xl false 5 (lN l) fun i j => zv.enc (gD l i zv.dflt) j, AV.fn (Fn.func (65 : FuncId)) 0 (fun (x : Nat) => AV.junk) 1 fun (x : Nat) => AV.xq 1 (fun (x : Nat) => AV.xl false 5 (lN m) fun i j => zv.enc (gD m i zv.dflt) j) 0] [AV.xl false 5 (lN l) fun i j => zv.enc (gD l i
 zv.dflt) j, AV.fn (Fn.func (65 : FuncId)) 0 (fun (x : Nat) => AV.junk) 1 fun (x : Nat) => AV.xq 1 (fun (x : Nat) => AV.xl false 5 (lN m) fun i j => zv.enc (gD m i zv.dflt) j) 0] ∧ leB iZ (xt (Z1 m) l 0) = List.any l (Z1 m) := by
 delta lN gD iZ
 intro hb
 exact ⟨Wk.refl _, Uc _ _ _⟩
theorem Qi (l m : List Row) : zW Tryz.prog [] 18 [yI l, Pq m] (.b (l.any (Z1 m))) :=
 zt (T := T0.plus 61 (Wz [yI l, Pq m] (.i (xt (Z1 m) l 0)))) (an := .auto) mixed (zZ.plus zR (Xn (Q0 l m))) (Eq.mp (by kernel_rfl) (qp l m))
def tS : List AV → Option (List zS × AV)
 | [x, .fn (.func f) nf a nc c] =>
  match c 0 with
  | .xq 1 cells 0 => bif Nat.beq f 65 && Nat.beq nf 0 && Nat.beq nc 1 then some ([.b (ZV Row x), .b (ZV Row (cells 0))], .b ((rowsOf x).any (Z1 (rowsOf (cells 0))))) else none
  | _ => none
 | _ => none
theorem Qw : zn Tryz.prog [] 18 tS := by
 intro xs ps r h hp
 unfold tS at h
 split at h
 ·rename_i x f nf a nc c
  split at h
  ·rename_i cells hc0
   cases hc : Nat.beq f 65 && Nat.beq nf 0 && Nat.beq nc 1 with
   | false => rw [hc] at h; cases h
   | true =>
    rw [hc] at h
    cases h
    simp only [Bool.and_eq_true] at hc
    obtain rfl := Nat.eq_of_beq_eq_true hc.1.1
    obtain rfl := Nat.eq_of_beq_eq_true hc.1.2
    obtain rfl := Nat.eq_of_beq_eq_true hc.2
    have h1 : ZV Row x = true := hp _ List.mem_cons_self
    have h2 : ZV Row (cells 0) = true := hp _ (List.mem_cons_of_mem _ List.mem_cons_self)
    refine weaken (ys := [yI (rowsOf x), Pq (rowsOf (cells 0))]) ⟨zH h1, ⟨rfl, rfl, rfl, trivial, ?_⟩, trivial⟩ (Qi _ _)
    show zc (c 0) _
    rw [hc0]
    exact ⟨rfl, rfl, zH h2⟩
  ·cases h
 ·cases h
def ZF (l : List Row) : Int := bif zj l != 0 then 1 else 0
def Zm (l : List Row) : Bool := bif zj l != 0 then false else Pk l
def tV : List AV → Option (List zS × AV)
 | [x_l] => some ([.b (ZV Row x_l)], .tup 2 (zU [.b (Zm (rowsOf x_l)), .i (ZF (rowsOf x_l))]))
 | _ => none
theorem qy (l : List Row) :
 let q2 := (AV.xl false 5 (lN l) fun i j => zv.enc (gD l i zv.dflt) j); let q1 := (ZV Row q2); let q3 := (rowsOf q2); Zo [AV.xl false 5 (lN l) fun i j => zv.enc (gD l i zv.dflt) j] → zz q1 (zz (zj q3 != iZ) (j2 ∧ (True ∧ false = Zm l) ∧ kI ∧ iO = ZF l) (zz q1 (zz q1 (j2 ∧ (True ∧ (!List.any q3 (Z1 q3)) = Zm l) ∧ kI ∧ iZ = ZF l) False) False)) False := by
 delta kI j2 lN gD iZ iO
 dsimp only
 intro hb
 have e2 : (zv.dflt : Row) = r0 := rfl
 simp only [sS, zJ, zm, zM, zQ, yn, ZQ, X4, yO, w8, yA, wC, yb, yB, Zj, e2]
 refine ⟨fun h => ?_, fun h => ?_⟩
 ·unfold Zm ZF
  rw [bne_iff_ne.2 h]
  exact ⟨rfl, rfl, rfl⟩
 ·unfold Zm ZF
  rw [h]
  exact ⟨rfl, rfl, rfl⟩
theorem Qt (l : List Row) : zW Tryz.prog [] 21 [yI l] (.tup 2 (zU [.b (Zm l), .i (ZF l)])) :=
 zt (T := (T0.plus 24 YM).plus 18 tS) (an := .auto) mixed (zZ.plus (zZ.plus zR xB) Qw) (Eq.mp (by kernel_rfl) (qy l))
theorem Qn : zn Tryz.prog [] 21 tV := by
 intro xs ps r h hp
 unfold tV at h
 split at h
 ·skip
  rename_i x_l
  cases h
  obtain ⟨q0, -⟩ := Yc hp
  exact weaken (ys := [yI (rowsOf x_l)]) ⟨zH q0, trivial⟩ (Qt (rowsOf x_l))
 ·cases h
def tw : List AV → Option (List zS × AV)
 | [x_x, .v (.int .i64 w), .v (.int .i64 d), .v (.int .i64 s), .v (.int .i64 q)] => some ([.b (Y2 Row x_x)], .b (Wr (Yo (α := Row) x_x) w d s q))
 | _ => none
theorem qz (x : Row) (w : Int) (d : Int) (s : Int) (q : Int) :
 let q1 := (!zy true (leB (Row.w x) w) || zy true (leB (Row.w x) w)); let q3 := (bif leB (Row.w x) w then leB (Row.d x) d else false); let q2 := (!zy true q3 || zy true q3); let q5 := (bif bif leB (Row.w x) w then leB (Row.d x) d else false then leB s (Row.s x) else false); let q4 := (!zy true q5 || zy true q5); Zo [AV.agg 5 (zv.enc x), aI w, aI d, aI s, aI q] → zz q1 (zz q1 (zz q1 (zz (!leB (Row.w x) w || zy true (leB (Row.w x) w)) (zz q2 (zz q2 (zz q2 (zz ((!bif leB
 (Row.w x) w then leB (Row.d x) d else false) || zy true q3) (zz q4 (zz q4 (zz q4 (zz ((!bif bif leB (Row.w x) w then leB (Row.d x) d else false then leB s (Row.s x) else false) || zy true q5) ((bif bif bif leB (Row.w x) w then leB (Row.d x) d else false then leB s (Row.s x) else false then leB q (Row.q x) else false) = Wr x w d s q) False) False) False) False) False) False) False) False) False) False) False) False := by
 delta aI
 dsimp only
 intro hb
 unfold Wr
 simp only [sS, zJ, zm, zM, zQ, yn, ZQ, X4, yO, w8, yA, wC, yb, yB, Zj]
theorem pT (x : Row) (w : Int) (d : Int) (s : Int) (q : Int) : zW Tryz.prog [] 124 [wV x, .i w, .i d, .i s, .i q] (.b (Wr x w d s q)) :=
 zt (T := T0) (an := .auto) mixed zR (Eq.mp (by kernel_rfl) (qz x w d s q))
theorem Q9 : zn Tryz.prog [] 124 tw := by
 intro xs ps r h hp
 unfold tw at h
 split at h
 ·skip
  rename_i x_x w d s q
  cases h
  obtain ⟨q0, -⟩ := Yc hp
  exact weaken (ys := [wV (Yo (α := Row) x_x), .i w, .i d, .i s, .i q]) ⟨ZI q0, zY _, zY _, zY _, zY _, trivial⟩ (pT (Yo (α := Row) x_x) w d s q)
 ·cases h
def Su (l : List Row) (w d s q : Int) : Z8 :=
 .two .auto (.two .auto (.two (.two .auto (.one (.loop Nat (fun σ z => [(0, σ.tm 0), (1, σ.tm 1), (2, σ.tm 2), (3, σ.tm 3), (4, σ.tm 4), (11, .i (Zq l w d s q z)), (12, .i z)]) (fun σ z => []) 0 (fun σ z => z ≤ l.length) (fun σ z => l.length - z) .auto))) .auto))
def Tx : List AV → Option (List zS × AV)
 | [x_l, .v (.int .i64 w), .v (.int .i64 d), .v (.int .i64 s), .v (.int .i64 q)] => some ([.b (ZV Row x_l)], .i (YU (rowsOf x_l) w d s q))
 | _ => none
theorem RE (l : List Row) (w : Int) (d : Int) (s : Int) (q : Int) :
 let q1 := (AV.xl false 5 (lN l) fun i j => zv.enc (gD l i zv.dflt) j); Zo [AV.xl false 5 (lN l) fun i j => zv.enc (gD l i zv.dflt) j, aI w, aI d, aI s, aI q] → (∃ (z : Nat), (z ≤ lN l ∧ zc q1 q1 ∧ (kI ∧ w = w) ∧ (kI ∧ d = d) ∧ (kI ∧ s = s) ∧ (kI ∧ q = q) ∧ (kI ∧ iZ = Zq l w d s q z) ∧ kI ∧ iZ = (↑z : Int)) ∧ True) ∧ ∀ (z : Nat), let q2 := (DB.db (iZ ≤ (↑z
 : Int) ∧ (↑z : Int) < (lZ l))); let q3 := (gD l (Int.toNat (↑z : Int)) zv.dflt); let q4 := (DB.db (ZG .i64 ((↑z : Int) + iO))); z ≤ lN l → zz (zl (↑z : Int) (lZ l)) (zz q2 (zz (Wr (Yo (AV.agg 5 fun (i : Nat) => zv.enc q3 (0 + i))) w d s q) (zz q2 (zz q4 (∃ (z' : Nat), ((z' ≤ lN l ∧ lN l - z' < lN l - z) ∧ zc q1 q1 ∧ (kI ∧ w = w) ∧ (kI ∧ d = d) ∧ (kI ∧ s = s) ∧ (kI ∧ q = q) ∧ (kI ∧ (if Row.n q3 > Zq l
 w d s q z then Row.n q3 else Zq l w d s q z) = Zq l w d s q z') ∧ kI ∧ (↑z : Int) + iO = (↑z' : Int)) ∧ True) False) False) (zz q4 (∃ (z' : Nat), ((z' ≤ lN l ∧ lN l - z' < lN l - z) ∧ zc q1 q1 ∧ (kI ∧ w = w) ∧ (kI ∧ d = d) ∧ (kI ∧ s = s) ∧ (kI ∧ q = q) ∧ (kI ∧ Zq l w d s q z = Zq l w d s q z') ∧ kI ∧ (↑z : Int) + iO = (↑z' : Int)) ∧ True) False)) False) (kI ∧ Zq l w d s q z = YU l w d s q) := by
 delta kI lZ lN gD iZ iO aI
 dsimp only
 intro hb
 have e2 : (zv.dflt : Row) = r0 := rfl
 simp only [sS, zJ, zm, zM, zQ, yn, ZQ, X4, yO, w8, yA, wC, yb, yB, Zj, e2]
 have hb1 : l.length ≤ 9223372036854775807 := hb.1.1
 refine ⟨⟨0, by omega, rfl, rfl⟩, fun z hz => ⟨fun hlt => ⟨⟨by omega, hlt⟩, ?_⟩, fun hge => ?_⟩⟩
 ·have hs : Zq l w d s q (z + 1) = bif Wr (l.getD z r0) w d s q then (if (l.getD z r0).n > Zq l w d s q z then (l.getD z r0).n else Zq l w d s q z) else Zq l w d s q z := rfl
  cases he : Wr (l.getD z r0) w d s q with
  | true =>
   rw [he] at hs
   simp only [TG]
   exact ⟨⟨by omega, hlt⟩, ⟨by omega, by omega⟩, z + 1, ⟨by omega, by omega⟩, hs.symm, by omega⟩
  | false =>
   rw [he] at hs
   simp only [SU]
   exact ⟨⟨by omega, by omega⟩, z + 1, ⟨by omega, by omega⟩, hs.symm, by omega⟩
 ·rw [show z = l.length by omega]; rfl
theorem QI (l : List Row) (w : Int) (d : Int) (s : Int) (q : Int) : zW Tryz.prog [] 80 [yI l, .i w, .i d, .i s, .i q] (.i (YU l w d s q)) :=
 zt (T := T0.plus 124 tw) (an := Su l w d s q) mixed (zZ.plus zR Q9) (Eq.mp (by kernel_rfl) (RE l w d s q))
theorem Qo : zn Tryz.prog [] 80 Tx := by
 intro xs ps r h hp
 unfold Tx at h
 split at h
 ·skip
  rename_i x_l w d s q
  cases h
  obtain ⟨q0, -⟩ := Yc hp
  exact weaken (ys := [yI (rowsOf x_l), .i w, .i d, .i s, .i q]) ⟨zH q0, zY _, zY _, zY _, zY _, trivial⟩ (QI (rowsOf x_l) w d s q)
 ·cases h
end Go.Te

namespace Go.Proofs
open Go.Shelf
def Tryz.lays219_ren : Go.Shelf.Ren := ⟨fun | 219 => 123 | 217 => 174 | 225 => 181 | 224 => 182 | 267 => 183 | 266 => 218 | 314 => 229 | n => n, fun | 9 => 9 | 3 => 3 | 4 => 4 | 5 => 5 | 46 => 155 | 146 => 243 | 51 => 201 | n => n, fun | 1 => 0 | n => n⟩
theorem Tryz.lays219 : Go.Proofs.Lays.n219 Tryz.prog Tryz.lays219_ren := {
 mixed := by kernel_rfl
 f217 := Tryz.func174.trans (congrArg some (by kernel_rfl))
 f219 := Tryz.func123.trans (congrArg some (by kernel_rfl))
 f224 := Tryz.func182.trans (congrArg some (by kernel_rfl))
 f225 := Tryz.func181.trans (congrArg some (by kernel_rfl))
 f266 := Tryz.func218.trans (congrArg some (by kernel_rfl))
 f267 := Tryz.func183.trans (congrArg some (by kernel_rfl))
 f314 := Tryz.func229.trans (congrArg some (by kernel_rfl))
 t3 := Tryz.underlying3
 a3 := Tryz.isAgg3
 z3 := Tryz.sizeOf3
 v3 := Tryz.zeroValue3
 t4 := Tryz.underlying4
 a4 := Tryz.isAgg4
 z4 := Tryz.sizeOf4
 v4 := Tryz.zeroValue4
 t5 := Tryz.underlying5
 a5 := Tryz.isAgg5
 z5 := Tryz.sizeOf5
 v5 := Tryz.zeroValue5
 t9 := Tryz.underlying9
 a9 := Tryz.isAgg9
 z9 := Tryz.sizeOf9
 v9 := Tryz.zeroValue9
 t46 := Tryz.underlying155
 a46 := Tryz.isAgg155
 z46 := Tryz.sizeOf155
 v46 := Tryz.zeroValue155
 t51 := Tryz.underlying201
 a51 := Tryz.isAgg201
 z51 := Tryz.sizeOf201
 v51 := Tryz.zeroValue201
 t146 := Tryz.underlying243
 a146 := Tryz.isAgg243
 z146 := Tryz.sizeOf243
 v146 := Tryz.zeroValue243
 g1 := by kernel_rfl }
open Go.RowKit Go.Lib in
theorem Tryz.stringslite_Index_one (s : ByteArray) (c : UInt8) (w : World) :
  Calls Tryz.prog 123 #[.string s, .string ⟨#[c]⟩] w fun e w' => e = .returned (.int .i64 (Lib.indexByte s.data.toList c)) ∧ w' = w := Any.stringslite_Index_one Tryz.lays219 s c w
def Tryz.laysM171_ren : Go.Shelf.Ren := ⟨fun | 171 => 71 | 243 => 121 | 246 => 180 | 283 => 225 | 284 => 226 | 285 => 227 | 286 => 228 | 129 => 173 | 317 => 248 | 318 => 249 | 319 => 250 | 320 => 251 | 337 => 270 | 338 => 271 | n => n, fun | 3 => 3 | 9 => 9 | 2 => 2 | 4 => 4 | 171 => 239 | 0 => 0 | 53 => 203 | 37 => 106 | 5 => 5 | 173 => 241 | 212 => 260 | 51 => 201 | 20 => 20 | 213 => 261 | 46 => 155 | 232 => 288 | 233 => 289 | n => n, fun | 17 => 3 | 18 => 6 | 19 => 7 | n => n⟩
theorem Tryz.laysM171 : Go.Proofs.LaysM.n171 Tryz.prog Tryz.laysM171_ren := {
 mixed := by kernel_rfl
 f129 := Tryz.func173.trans (congrArg some (by kernel_rfl))
 f171 := Tryz.func71.trans (congrArg some (by kernel_rfl))
 f243 := Tryz.func121.trans (congrArg some (by kernel_rfl))
 f246 := Tryz.func180.trans (congrArg some (by kernel_rfl))
 f283 := Tryz.func225.trans (congrArg some (by kernel_rfl))
 f284 := Tryz.func226.trans (congrArg some (by kernel_rfl))
 f285 := Tryz.func227.trans (congrArg some (by kernel_rfl))
 f286 := Tryz.func228.trans (congrArg some (by kernel_rfl))
 f317 := Tryz.func248.trans (congrArg some (by kernel_rfl))
 f318 := Tryz.func249.trans (congrArg some (by kernel_rfl))
 f319 := Tryz.func250.trans (congrArg some (by kernel_rfl))
 f320 := Tryz.func251.trans (congrArg some (by kernel_rfl))
 f337 := Tryz.func270.trans (congrArg some (by kernel_rfl))
 f338 := Tryz.func271.trans (congrArg some (by kernel_rfl))
 t0 := Tryz.underlying0
 a0 := Tryz.isAgg0
 z0 := Tryz.sizeOf0
 v0 := Tryz.zeroValue0
 t2 := Tryz.underlying2
 a2 := Tryz.isAgg2
 z2 := Tryz.sizeOf2
 v2 := Tryz.zeroValue2
 t3 := Tryz.underlying3
 a3 := Tryz.isAgg3
 z3 := Tryz.sizeOf3
 v3 := Tryz.zeroValue3
 t4 := Tryz.underlying4
 a4 := Tryz.isAgg4
 z4 := Tryz.sizeOf4
 v4 := Tryz.zeroValue4
 t5 := Tryz.underlying5
 a5 := Tryz.isAgg5
 z5 := Tryz.sizeOf5
 v5 := Tryz.zeroValue5
 t9 := Tryz.underlying9
 a9 := Tryz.isAgg9
 z9 := Tryz.sizeOf9
 v9 := Tryz.zeroValue9
 t20 := Tryz.underlying20
 a20 := Tryz.isAgg20
 z20 := Tryz.sizeOf20
 v20 := Tryz.zeroValue20
 t37 := Tryz.underlying106
 a37 := Tryz.isAgg106
 z37 := Tryz.sizeOf106
 v37 := Tryz.zeroValue106
 t46 := Tryz.underlying155
 a46 := Tryz.isAgg155
 z46 := Tryz.sizeOf155
 v46 := Tryz.zeroValue155
 t51 := Tryz.underlying201
 a51 := Tryz.isAgg201
 z51 := Tryz.sizeOf201
 v51 := Tryz.zeroValue201
 t53 := Tryz.underlying203
 a53 := Tryz.isAgg203
 z53 := Tryz.sizeOf203
 v53 := Tryz.zeroValue203
 t171 := Tryz.underlying239
 a171 := Tryz.isAgg239
 z171 := Tryz.sizeOf239
 v171 := Tryz.zeroValue239
 t173 := Tryz.underlying241
 a173 := Tryz.isAgg241
 z173 := Tryz.sizeOf241
 v173 := Tryz.zeroValue241
 t212 := Tryz.underlying260
 a212 := Tryz.isAgg260
 z212 := Tryz.sizeOf260
 v212 := Tryz.zeroValue260
 t213 := Tryz.underlying261
 a213 := Tryz.isAgg261
 z213 := Tryz.sizeOf261
 t232 := Tryz.underlying288
 a232 := Tryz.isAgg288
 z232 := Tryz.sizeOf288
 v232 := Tryz.zeroValue288
 t233 := Tryz.underlying289
 a233 := Tryz.isAgg289
 z233 := Tryz.sizeOf289
 v233 := Tryz.zeroValue289
 g17 := by kernel_rfl
 g18 := by kernel_rfl
 g19 := by kernel_rfl
 i0 := by kernel_rfl
 i2 := by kernel_rfl
 i3 := by kernel_rfl
 i4 := by kernel_rfl
 i5 := by kernel_rfl
 i9 := by kernel_rfl
 i20 := by kernel_rfl
 i37 := by kernel_rfl
 i46 := by kernel_rfl
 i51 := by kernel_rfl
 i53 := by kernel_rfl
 i171 := by kernel_rfl
 i173 := by kernel_rfl
 i212 := by kernel_rfl
 i232 := by kernel_rfl
 i233 := by kernel_rfl
 m17 := by kernel_rfl
 m18 := by kernel_rfl
 m19 := by kernel_rfl }
open Go.RowKit Go.Sort Go.Lib in
theorem Tryz.strconv_Itoa (n : Int) (h0 : -9223372036854775808 ≤ n) (h1 : n ≤ 9223372036854775807) (w : World) (htab : Lib.TabIs Tryz.prog w "internal/strconv.uint64pow10" .u64 Lib.pow10Tab) :
  Calls Tryz.prog 71 #[.int .i64 n] w fun e w' => e = .returned (.string ⟨(Lib.itoa n).toArray⟩) ∧ ∃ k os, w' = grow (w.drewN k) os := Any.strconv_Itoa Tryz.laysM171 n h0 h1 w htab
end Go.Proofs

namespace Go.Te
open Go Go.Sx Go.Proofs Go.Ar Go.RowKit
set_option maxRecDepth 100000
set_option maxHeartbeats 4000000
def Ph : AV → Bool
 | .v (.bool true) => true
 | _ => false
theorem qH (x : AV) (h : Ph x = true) : zc x (.b true) := by
 unfold Ph at h
 split at h
 ·exact zY _
 ·cases h
def vr : List AV → Option (List zS × AV)
 | [.str s, .str [c]] => some ([], .i (Lib.indexByte s c))
 | _ => none
theorem tn : zn Tryz.prog [] 123 vr := by
 intro xs ps r h hp
 unfold vr at h
 split at h
 ·rename_i s c
  cases h
  refine ⟨enters_of Tryz.func123 (by kernel_rfl) rfl, fun w S vals hS hg hr => ?_⟩
  match vals, hr with
  | [v, v2], ⟨hv, hv2, _⟩ =>
  obtain rfl := ZZ hv
  obtain rfl := ZZ hv2
  refine (Tryz.stringslite_Index_one ⟨s.toArray⟩ c w).mono ?_
  rintro e w' ⟨rfl, rfl⟩
  exact ⟨⟨Below.refl _ _, Nat.le_refl _⟩, _, rfl, .v _⟩
 ·cases h
noncomputable def P4 : Tb := T0.plus 123 vr
theorem TA : zZ Tryz.prog P4 := zZ.plus zR tn
noncomputable def Pi : Tb := Tb.deepX Tryz.prog P4 [] 12
theorem Vz : zZ Tryz.prog Pi := zZ.deepX mixed TA [] 12
def qO : AV → Bool
 | .v (.int .i64 0) => true
 | _ => false
theorem zW.mono {P : Program} {G : List (Nat × Obj)} {f : FuncId} {xs : List AV} {r : AV} (h : zW P [] f xs r) : zW P G f xs r :=
 ⟨h.1, fun w S vals hS _ hr => h.2 w S vals hS (fun b o hbo => by cases hbo) hr⟩
theorem ZP.mono {P : Program} {G : List (Nat × Obj)} {f : FuncId} {xs : List AV} {t : TypeId} {sz len : Nat} {els : Nat → Nat → AV} (h : ZP P [] f xs t sz len els) : ZP P G f xs t sz len els :=
 ⟨h.1, fun w S vals hS _ hr => h.2 w S vals hS (fun b o hbo => by cases hbo) hr⟩
theorem zn.mono {P : Program} {G : List (Nat × Obj)} {f : FuncId} {t : List AV → Option (List zS × AV)} (h : zn P [] f t) : zn P G f t := fun xs ps r e hp => zW.mono (h xs ps r e hp)
theorem Yw.mono {P : Program} {G : List (Nat × Obj)} {f : FuncId} {t : List AV → Option (List zS × TypeId × Nat × Nat × (Nat → Nat → AV))} (h : Yw P [] f t) : Yw P G f t := fun xs ps ty sz len els e hp => ZP.mono (h xs ps ty sz len els e hp)
def yZ (G : List (Nat × Obj)) : Prop := ∃ g t fr, Tryz.prog.globalNamed "internal/strconv.uint64pow10" = some g ∧ (g, Obj.cells (Lib.pow10Tab.map fun z => Value.int .u64 z).toArray t fr) ∈ G
def tp : List AV → Option (List zS × AV)
 | [.v (.int .i64 n)] => some ([.p (ZG .i64 n)], .str (Lib.itoa n))
 | _ => none
theorem QP {G : List (Nat × Obj)} (hG : yZ G) : zn Tryz.prog G 71 tp := by
 intro xs ps r h hp
 unfold tp at h
 split at h
 ·rename_i n
  cases h
  have hn : ZG .i64 n := hp _ List.mem_cons_self
  simp only [ZG] at hn
  refine ⟨enters_of Tryz.func71 (by kernel_rfl) rfl, fun w S vals hS hg hr => ?_⟩
  match vals, hr with
  | [v], ⟨hv, _⟩ =>
  obtain rfl := zi hv
  obtain ⟨g, t, fr, hname, hmem⟩ := hG
  have htab : Lib.TabIs Tryz.prog w "internal/strconv.uint64pow10" .u64 Lib.pow10Tab := by
   unfold Lib.TabIs World.var?
   rw [hname]
   simp only [Option.bind_some, (hg _ _ hmem).2]
  refine (Tryz.strconv_Itoa n hn.1 hn.2 w htab).mono ?_
  rintro e w' ⟨rfl, k, os, rfl⟩
  exact ⟨⟨⟨rfl, rfl, rfl, by simp [Go.Sort.grow, World.drewN], fun b hb => by simp [Go.Sort.grow, World.drewN, Array.getElem?_append, hb]⟩, by simp [Go.Sort.grow, World.drewN]⟩, _, rfl, .str _⟩
 ·cases h
noncomputable def pd (G : List (Nat × Obj)) : Tb := (SJ G).plus 71 tp
theorem x7 {G : List (Nat × Obj)} (hG : yZ G) : zZ Tryz.prog (pd G) := zZ.plus zR (QP hG)
theorem QR (G : List (Nat × Obj)) (n : Int) (hn : ZG .i64 n) :
 Zo [aI n, aI iO] → (iN ≤ n ∧ n ≤ iX) ∧ j2 ∧ (True ∧ Lib.itoa n = Lib.itoa n) ∧ kI ∧ iZ = iZ := by
 delta kI j2 iZ iO iX iN aI
 intro _
 exact ⟨hn, rfl, ⟨trivial, rfl⟩, rfl, rfl⟩
theorem pm {G : List (Nat × Obj)} (hG : yZ G) (n : Int) (hn : ZG .i64 n) : zW Tryz.prog G 89 [.i n, .i 1] (.tup 2 (zU [.str (Lib.itoa n), .i 0])) :=
 zt (T := pd G) (an := .auto) mixed (x7 hG) (Eq.mp (by kernel_rfl) (QR G n hn))
def tU (t : Bool) : AV → Bool
 | .tup 2 vs => (match vs 0 with | .v (.bool a) => a == t | _ => false) && (match vs 1 with | .v (.int .i64 0) => true | _ => false)
 | _ => false
theorem xr {t : Bool} (x : AV) (h : tU t x = true) : zc x (.tup 2 (zU [.b t, .i 0])) := by
 unfold tU at h
 split at h
 ·rename_i vs
  simp only [Bool.and_eq_true] at h
  refine ⟨rfl, WY fun i hi => ?_⟩
  match i, hi with
  | 0, _ =>
   show zc (vs 0) (.b t)
   have h1 := h.1
   split at h1
   ·rename_i a ha; rw [ha, eq_of_beq h1]; exact zY _
   ·cases h1
  | 1, _ =>
   show zc (vs 1) (.i 0)
   have h1 := h.2
   split at h1
   ·rename_i ha; rw [ha]; exact zY _
   ·cases h1
 ·cases h
noncomputable def TF (G : List (Nat × Obj)) (n : Int) (nl : List UInt8) : Tb := ((SJ G).plus 123 vr).plus 89 (Wz [.i n, .i 1] (.tup 2 (zU [.str nl, .i 0])))
noncomputable def DF (G : List (Nat × Obj)) (n : Int) (nl : List UInt8) : Tb := Tb.deepX Tryz.prog (TF G n nl) [] 12
theorem XJ {G : List (Nat × Obj)} (hG : yZ G) {n : Int} {nl : List UInt8} (hn : ZG .i64 n) (h : Lib.itoa n = nl) : zZ Tryz.prog (DF G n nl) :=
 zZ.deepX mixed (zZ.plus (zZ.plus zR (zn.mono tn)) (Xn (h ▸ pm hG n hn))) [] 12
theorem rA (G : List (Nat × Obj)) :
 Wk [aI (3600 : Int), aI iO] [aI (3600 : Int), aI iO] ∧ True := by
 delta iO aI
 exact ⟨Wk.refl _, trivial⟩
theorem rQ (G : List (Nat × Obj)) :
 Wk [aI (3600 : Int), aI iO] [aI (3600 : Int), aI iO] ∧ True := by
 delta iO aI
 exact ⟨Wk.refl _, trivial⟩
theorem re (G : List (Nat × Obj)) :
 Wk [aI (2500 : Int), aI iO] [aI (2500 : Int), aI iO] ∧ True := by
 delta iO aI
 exact ⟨Wk.refl _, trivial⟩
theorem RN (G : List (Nat × Obj)) :
 Wk [aI (2800 : Int), aI iO] [aI (2800 : Int), aI iO] ∧ True := by
 delta iO aI
 exact ⟨Wk.refl _, trivial⟩
theorem PP (l : List UInt8) (h : ZH l = true) : Lib.itoa (zP l : Int) = l := by rw [yP, Zb h]
abbrev sA : List UInt8 := [50, 54, 48, 48]
abbrev sB : List UInt8 := [55, 50, 48, 49, 47, 50]
def WZ : List AV → Option (List zS × AV)
 | [.v (.int .i64 n), .str s] =>
  bif n == 2500 then some ([.b (s == sA)], .tup 2 (zU [.b false, .i 0]))
  else bif n == 2800 then some ([.b (s == sA)], .tup 2 (zU [.b true, .i 0]))
  else bif n == 3600 then some ([.b (s == sA || s == sB)], .tup 2 (zU [.b (s == sA), .i 0])) else none
 | _ => none
theorem Ts {G : List (Nat × Obj)} (hG : yZ G) : zn Tryz.prog G 57 WZ := by
 intro xs ps r h hp
 unfold WZ at h
 split at h
 ·rename_i n s
  cases h1 : n == 2500 with
  | true =>
   rw [h1] at h
   cases h
   obtain rfl := eq_of_beq h1
   have q : (s == sA) = true := hp _ List.mem_cons_self
   obtain rfl := eq_of_beq q
   exact Zt mixed (XJ hG (by simp only [ZG]; decide) (PP [50, 53, 48, 48] (by decide))) xr (Eq.mp (by kernel_rfl) (re G) : xV Tryz.prog (DF G 2500 [50, 53, 48, 48]) 57 .auto [.i 2500, .str [50, 54, 48, 48]] (tU false))
  | false =>
  rw [h1] at h
  cases h2 : n == 2800 with
  | true =>
   rw [h2] at h
   cases h
   obtain rfl := eq_of_beq h2
   have q : (s == sA) = true := hp _ List.mem_cons_self
   obtain rfl := eq_of_beq q
   exact Zt mixed (XJ hG (by simp only [ZG]; decide) (PP [50, 56, 48, 48] (by decide))) xr (Eq.mp (by kernel_rfl) (RN G) : xV Tryz.prog (DF G 2800 [50, 56, 48, 48]) 57 .auto [.i 2800, .str [50, 54, 48, 48]] (tU true))
  | false =>
  rw [h2] at h
  cases h3 : n == 3600 with
  | true =>
   rw [h3] at h
   cases h
   obtain rfl := eq_of_beq h3
   have q : (s == sA || s == sB) = true := hp _ List.mem_cons_self
   rw [Bool.or_eq_true] at q
   rcases q with q | q
   ·obtain rfl := eq_of_beq q
    exact Zt mixed (XJ hG (by simp only [ZG]; decide) (PP [51, 54, 48, 48] (by decide))) xr (Eq.mp (by kernel_rfl) (rQ G) : xV Tryz.prog (DF G 3600 [51, 54, 48, 48]) 57 .auto [.i 3600, .str [50, 54, 48, 48]] (tU true))
   ·obtain rfl := eq_of_beq q
    exact Zt mixed (XJ hG (by simp only [ZG]; decide) (PP [51, 54, 48, 48] (by decide))) xr (Eq.mp (by kernel_rfl) (rA G) : xV Tryz.prog (DF G 3600 [51, 54, 48, 48]) 57 .auto [.i 3600, .str [55, 50, 48, 49, 47, 50]] (tU false))
  | false => rw [h3] at h; cases h
 ·cases h
theorem Qg  :
 True := by
 trivial
theorem pq  :
 True := by
 trivial
theorem Ue (x : AV) (h : qO x = true) : zc x (.i 0) := by
 unfold qO at h
 split at h
 ·exact zY _
 ·cases h
def Ve : List AV → Option (List zS × AV)
 | [.str s] => some ([.b (s == sA || s == sB)], .i 0)
 | _ => none
theorem Sm : zn Tryz.prog [] 56 Ve := by
 intro xs ps r h hp
 unfold Ve at h
 split at h
 ·rename_i s
  cases h
  have q : (s == sA || s == sB) = true := hp _ List.mem_cons_self
  rw [Bool.or_eq_true] at q
  rcases q with q | q
  ·obtain rfl := eq_of_beq q
   exact Zt mixed Vz Ue (Eq.mp (by kernel_rfl) Qg : xV Tryz.prog Pi 56 .auto [.str [50, 54, 48, 48]] qO)
  ·obtain rfl := eq_of_beq q
   exact Zt mixed Vz Ue (Eq.mp (by kernel_rfl) pq : xV Tryz.prog Pi 56 .auto [.str [55, 50, 48, 49, 47, 50]] qO)
 ·cases h
def vW : List AV → Option (List zS × AV)
 | [x_a, x_b] => some ([.b (Y2 Sz x_a), .b (Y2 Sz x_b), .p (Rk (Yo (α := Sz) x_a) = true), .p (Rk (Yo (α := Sz) x_b) = true)], .i (rJ (Yo (α := Sz) x_a) (Yo (α := Sz) x_b)))
 | _ => none
theorem T5 (a : Sz) (b : Sz) (h1 : Rk a = true) (h2 : Rk b = true) :
 Zo [AV.agg 3 (zv.enc a), AV.agg 3 (zv.enc b)] → zz (DB.db (ZG .i64 (Sz.w a * Sz.d a))) (zz (DB.db (ZG .i64 (Sz.w b * Sz.d b))) (zz (DB.db (ZG .i64 (Sz.w a * Sz.d a - Sz.w b * Sz.d b))) (zz (DB.db (ZG .i64 (Sz.w a - Sz.w b))) (kI ∧ rn (fun (i : Nat) => AV.int (Sx.rowAt [fun (x : Nat) => aI (Sz.w a * Sz.d a - Sz.w b * Sz.d b), fun (x : Nat) => aI (Sz.w a - Sz.w b)] i 0)) 2 0 = rJ a b) False) False) False) False := by
 delta kI aI
 intro _
 have g1 := Tn h1
 have g2 := Tn h2
 simp only [sS, true_and]
 refine ⟨⟨by omega, by omega⟩, ⟨by omega, by omega⟩, ⟨by omega, by omega⟩, ⟨by omega, by omega⟩, ?_⟩
 show (bif a.w * a.d - b.w * b.d == 0 then (bif a.w - b.w == 0 then (0 : Int) else a.w - b.w) else a.w * a.d - b.w * b.d) = rJ a b
 unfold rJ
 generalize a.w * a.d - b.w * b.d = x1
 generalize a.w - b.w = x2
 have e : ∀ (x A B : Int), (bif x == 0 then A else B) = bif x != 0 then B else A := fun x A B => by
  show _ = bif !(x == 0) then B else A
  cases x == 0 <;> rfl
 have e4 : (bif x2 == 0 then (0 : Int) else x2) = x2 := by
  cases h : x2 == 0 with
  | true => exact (eq_of_beq h).symm
  | false => rfl
 rw [e4, e]
theorem rU (a : Sz) (b : Sz) (h1 : Rk a = true) (h2 : Rk b = true) : zW Tryz.prog [] 60 [wV a, wV b] (.i (rJ a b)) :=
 zt (T := PL) (an := .auto) mixed VV (Eq.mp (by kernel_rfl) (T5 a b h1 h2))
theorem Rw : zn Tryz.prog [] 60 vW := by
 intro xs ps r h hp
 unfold vW at h
 split at h
 ·skip
  rename_i x_a x_b
  cases h
  obtain ⟨q0, q1, q2, q3, -⟩ := Yc hp
  exact weaken (ys := [wV (Yo (α := Sz) x_a), wV (Yo (α := Sz) x_b)]) ⟨ZI q0, ZI q1, trivial⟩ (rU (Yo (α := Sz) x_a) (Yo (α := Sz) x_b) q2 q3)
 ·cases h
def l0 : List Row := [⟨50, 100, 400, 1000, 2500⟩, ⟨50, 150, 400, 1000, 3600⟩, ⟨75, 100, 600, 1500, 2800⟩]
noncomputable def TL (G : List (Nat × Obj)) : Tb := ((((SJ G).plus 55 (Wz [yI l0, .i 1, .i 1, .i 400, .i 1000] (.i 0))).plus 56 Ve).plus 57 WZ).plus 60 vW
noncomputable def DL (G : List (Nat × Obj)) : Tb := Tb.deepX Tryz.prog (TL G) [] 12
def Ql (x : AV) : Bool :=
 match x with
 | .tup 2 vs => Y2 Sz (vs 0) && decide (Yo (vs 0) = (⟨0, 50, 150⟩ : Sz)) && (match vs 1 with | .v (.int .i64 0) => true | _ => false)
 | _ => false
theorem rT (x : AV) (h : Ql x = true) : zc x (.tup 2 (zU [wV (⟨0, 50, 150⟩ : Sz), .i 0])) := by
 unfold Ql at h
 split at h
 ·rename_i vs
  simp only [Bool.and_eq_true, decide_eq_true_eq] at h
  refine ⟨rfl, WY fun i hi => ?_⟩
  match i, hi with
  | 0, _ =>
   show zc (vs 0) (wV (⟨0, 50, 150⟩ : Sz))
   exact h.1.2 ▸ ZI h.1.1
  | 1, _ =>
   show zc (vs 1) (.i 0)
   have h1 := h.2
   split at h1
   ·rename_i ha; rw [ha]; exact zY _
   ·cases h1
 ·cases h
theorem rO {G : List (Nat × Obj)} (hG : yZ G) : zZ Tryz.prog (TL G) :=
 zZ.plus (zZ.plus (zZ.plus (zZ.plus zR (Xn (zW.mono (SD l0 1 1 400 1000)))) (zn.mono Sm)) (Ts hG)) (zn.mono Rw)
theorem Sf (G : List (Nat × Obj)) :
 let q1 := (Array.getD (Value.cells (Value.agg #[Value.int .i64 iZ, Value.int .i64 iZ, Value.int .i64 iZ])) 0 undef); Wk [AV.xl false 5 3 fun i j => zv.enc (gD l0 i zv.dflt) j, aI iO, aI iO, aI (400 : Int), aI (1000 : Int)] [AV.xl false 5 3 fun i j => zv.enc (gD l0 i zv.dflt) j, aI iO, aI iO, aI (400 : Int), aI (1000 : Int)] ∧ (zy true (zl iZ (iZ + iO)) =
 true → Rk (Yo (AV.agg 3 fun (x : Nat) => if 1 < 1 then Sx.rowAt [zU [AV.v q1, aI (Row.w (gD l0 1 zv.dflt)), aI (Row.d (gD l0 1 zv.dflt))]] 1 (0 + x) else Sx.rowAt [zU [AV.v q1, aI (Row.w (gD l0 2 zv.dflt)), aI (Row.d (gD l0 2 zv.dflt))]] 0 (0 + x))) = true) ∧ (zy true (zl iZ (iZ + iO)) = true → Rk (Yo (AV.agg 3 fun (x : Nat) => if 0 < 1 then Sx.rowAt [zU [AV.v q1, aI (Row.w (gD l0 1 zv.dflt)), aI (Row.d
 (gD l0 1 zv.dflt))]] 0 (0 + x) else Sx.rowAt [zU [AV.v q1, aI (Row.w (gD l0 2 zv.dflt)), aI (Row.d (gD l0 2 zv.dflt))]] 0 (0 + x))) = true) ∧ True := by
 delta gD iZ iO aI
 dsimp only
 exact ⟨Wk.refl _, fun _ => rfl, fun _ => rfl, trivial⟩
theorem R2 {G : List (Nat × Obj)} (hG : yZ G) : zW Tryz.prog G 17 [yI l0, .i 400, .i 1000, .str sA] (.tup 2 (zU [wV (⟨0, 50, 150⟩ : Sz), .i 0])) :=
 Zt mixed (zZ.deepX mixed (rO hG) [] 12) rT (Eq.mp (by kernel_rfl) (Sf G) : xV Tryz.prog (DL G) 17 .auto [yI l0, .i 400, .i 1000, .str sA] Ql)
noncomputable def P3 (G : List (Nat × Obj)) : Tb := ((((SJ G).plus 55 (Wz [yI l0, .i 75, .i 150, .i 400, .i 1000] (.i 0))).plus 56 Ve).plus 57 WZ).plus 58 (Wz [yI l0, .i 75, .i 150, .i 400, .i 1000] (.i 3600))
theorem T1 {G : List (Nat × Obj)} (hG : yZ G) : zZ Tryz.prog (P3 G) :=
 zZ.plus (zZ.plus (zZ.plus (zZ.plus zR (Xn (zW.mono (SD l0 75 150 400 1000)))) (zn.mono Sm)) (Ts hG)) (Xn (zW.mono (VY l0 75 150 400 1000)))
theorem sr (G : List (Nat × Obj)) :
 Wk [AV.xl false 5 3 fun i j => zv.enc (gD l0 i zv.dflt) j, aI (75 : Int), aI (150 : Int), aI (400 : Int), aI (1000 : Int)] [AV.xl false 5 3 fun i j => zv.enc (gD l0 i zv.dflt) j, aI (75 : Int), aI (150 : Int), aI (400 : Int), aI (1000 : Int)] ∧ Wk [AV.xl false 5 3 fun i j => zv.enc (gD l0 i zv.dflt) j, aI (75 : Int), aI (150 : Int), aI (400 : Int), AV.v
 (Value.int .i64 (1000 : Int))] [AV.xl false 5 3 fun i j => zv.enc (gD l0 i zv.dflt) j, aI (75 : Int), aI (150 : Int), aI (400 : Int), aI (1000 : Int)] ∧ True := by
 delta gD aI
 exact ⟨Wk.refl _, Wk.refl _, trivial⟩
theorem sF {G : List (Nat × Obj)} (hG : yZ G) : zW Tryz.prog G 15 [yI l0, .i 75, .i 150, .i 400, .i 1000, .str sB] (.tup 2 (zU [.b false, .i 0])) :=
 Zt mixed (T1 hG) xr (Eq.mp (by kernel_rfl) (sr G) : xV Tryz.prog (P3 G) 15 .auto [yI l0, .i 75, .i 150, .i 400, .i 1000, .str sB] (tU false))
def pP (x : AV) : Bool := ZV Row x && decide (rowsOf x = l0)
theorem VA {x : AV} (h : pP x = true) : zc x (yI l0) := by
 simp only [pP, Bool.and_eq_true, decide_eq_true_eq] at h
 exact h.2 ▸ zH h.1
def Si : List AV → Option (List zS × AV)
 | [x, .v (.int .i64 w), .v (.int .i64 d), .v (.int .i64 s), .v (.int .i64 q)] => some ([.b (pP x)], .tup 2 (zU [.i (vP l0 w d s q), .i (xu l0 w d s q)]))
 | _ => none
theorem PV : zn Tryz.prog [] 16 Si := by
 intro xs ps r h hp
 unfold Si at h
 split at h
 ·cases h
  exact weaken (ys := [_, _, _, _, _]) ⟨VA (hp _ List.mem_cons_self), zY _, zY _, zY _, zY _, trivial⟩ (QJ l0 _ _ _ _)
 ·cases h
def Ru : List AV → Option (List zS × AV)
 | [x, .v (.int .i64 s), .v (.int .i64 q), .str a] => some ([.b (pP x), .b (s == 400), .b (q == 1000), .b (a == sA)], .tup 2 (zU [wV (⟨0, 50, 150⟩ : Sz), .i 0]))
 | _ => none
theorem Pw {G : List (Nat × Obj)} (hG : yZ G) : zn Tryz.prog G 17 Ru := by
 intro xs ps r h hp
 unfold Ru at h
 split at h
 ·rename_i x s q a
  cases h
  have h1 : s = 400 := eq_of_beq (hp _ (List.mem_cons_of_mem _ List.mem_cons_self))
  have h2 : q = 1000 := eq_of_beq (hp _ (List.mem_cons_of_mem _ (List.mem_cons_of_mem _ List.mem_cons_self)))
  have h3 : (a == sA) = true := hp _ (List.mem_cons_of_mem _ (List.mem_cons_of_mem _ (List.mem_cons_of_mem _ List.mem_cons_self)))
  obtain rfl := eq_of_beq h3
  subst h1 h2
  exact weaken (ys := [_, _, _, _]) ⟨VA (hp _ List.mem_cons_self), zY _, zY _, zY _, trivial⟩ (R2 hG)
 ·cases h
def rk : List AV → Option (List zS × AV)
 | [x, .v (.int .i64 w), .v (.int .i64 d), .v (.int .i64 s), .v (.int .i64 q), .str a] => some ([.b (pP x), .b (w == 75), .b (d == 150), .b (s == 400), .b (q == 1000), .b (a == sB)], .tup 2 (zU [.b false, .i 0]))
 | _ => none
theorem PW {G : List (Nat × Obj)} (hG : yZ G) : zn Tryz.prog G 15 rk := by
 intro xs ps r h hp
 unfold rk at h
 split at h
 ·rename_i x w d s q a
  cases h
  have k1 := List.mem_cons_of_mem (.b (pP x)) (List.mem_cons_self (a := zS.b (w == 75)) (l := [.b (d == 150), .b (s == 400), .b (q == 1000), .b (a == sB)]))
  have h1 : w = 75 := eq_of_beq (hp _ k1)
  have h2 : d = 150 := eq_of_beq (hp (.b (d == 150)) (by simp))
  have h3 : s = 400 := eq_of_beq (hp (.b (s == 400)) (by simp))
  have h4 : q = 1000 := eq_of_beq (hp (.b (q == 1000)) (by simp))
  have h5 : (a == sB) = true := hp (.b (a == sB)) (by simp)
  obtain rfl := eq_of_beq h5
  subst h1 h2 h3 h4
  exact weaken (ys := [_, _, _, _, _, _]) ⟨VA (hp _ List.mem_cons_self), zY _, zY _, zY _, zY _, zY _, trivial⟩ (sF hG)
 ·cases h
noncomputable def Pb (G : List (Nat × Obj)) : Tb := (((SJ G).plus 16 Si).plus 17 Ru).plus 15 rk
theorem s9 {G : List (Nat × Obj)} (hG : yZ G) : zZ Tryz.prog (Pb G) :=
 zZ.plus (zZ.plus (zZ.plus zR (zn.mono PV)) (Pw hG)) (PW hG)
theorem rR (G : List (Nat × Obj)) :
 True := by
 trivial
theorem Td {G : List (Nat × Obj)} (hG : yZ G) : zW Tryz.prog G 13 [] (.b true) :=
 Zt mixed (s9 hG) qH (Eq.mp (by kernel_rfl) (rR G) : xV Tryz.prog (Pb G) 13 .auto [] Ph)
end Go.Te

namespace Go.Te
open Go Go.Sx Go.Proofs Go.Ar Go.Lib
set_option maxRecDepth 100000
set_option maxHeartbeats 4000000
instance : ym Big := ⟨fun c => by cases c; simp [zv.enc, zv.dec, zU, TS, AV.bool], fun c => by cases c; simp [zv.enc, zv.ok, zU, Ur, isBool]⟩
structure oV where
 x : Int
 y : Int
structure oT where
 x : Nat
 y : Nat
end Go.Te

namespace Go.Proofs
open Go.Shelf
def Tryz.lays172_ren : Go.Shelf.Ren := ⟨fun | 172 => 119 | 244 => 177 | 245 => 178 | 247 => 220 | 279 => 221 | 280 => 222 | 281 => 223 | 282 => 224 | 287 => 245 | 316 => 246 | 171 => 71 | 205 => 247 | 321 => 268 | 322 => 269 | 243 => 121 | 246 => 180 | 283 => 225 | 284 => 226 | 285 => 227 | 286 => 228 | 129 => 173 | 317 => 248 | 318 => 249 | 319 => 250 | 320 => 251 | 337 => 270 | 338 => 271 | n => n, fun | 9 => 9 | 3 => 3 | 75 => 110 | 76 => 112 | 4 => 4 | 5 => 5 | 167 => 233 | 37 => 106 | 0 => 0 | 85 => 234 | 2 => 2 | 168 => 236 | 53 => 203 | 175 => 254 | 46 => 155 | 210 => 257 | 127 => 161 | 145 => 278 | 143 => 276 | 21 => 21 | 171 => 239 | 173 => 241 | 212 => 260 | 51 => 201 | 20 => 20 | 213 => 261 | 232 => 288 | 233 => 289 | 80 => 116 | n => n, fun | 15 => 1 | 16 => 2 | 17 => 3 | 18 => 6 | 19 => 7 | n => n⟩
theorem Tryz.lays172 : Go.Proofs.Lays.n172 Tryz.prog Tryz.lays172_ren := {
 mixed := by kernel_rfl
 f129 := Tryz.func173.trans (congrArg some (by kernel_rfl))
 f171 := Tryz.func71.trans (congrArg some (by kernel_rfl))
 f172 := Tryz.func119.trans (congrArg some (by kernel_rfl))
 f205 := Tryz.func247.trans (congrArg some (by kernel_rfl))
 f243 := Tryz.func121.trans (congrArg some (by kernel_rfl))
 f244 := Tryz.func177.trans (congrArg some (by kernel_rfl))
 f245 := Tryz.func178.trans (congrArg some (by kernel_rfl))
 f246 := Tryz.func180.trans (congrArg some (by kernel_rfl))
 f247 := Tryz.func220.trans (congrArg some (by kernel_rfl))
 f279 := Tryz.func221.trans (congrArg some (by kernel_rfl))
 f280 := Tryz.func222.trans (congrArg some (by kernel_rfl))
 f281 := Tryz.func223.trans (congrArg some (by kernel_rfl))
 f282 := Tryz.func224.trans (congrArg some (by kernel_rfl))
 f283 := Tryz.func225.trans (congrArg some (by kernel_rfl))
 f284 := Tryz.func226.trans (congrArg some (by kernel_rfl))
 f285 := Tryz.func227.trans (congrArg some (by kernel_rfl))
 f286 := Tryz.func228.trans (congrArg some (by kernel_rfl))
 f287 := Tryz.func245.trans (congrArg some (by kernel_rfl))
 f316 := Tryz.func246.trans (congrArg some (by kernel_rfl))
 f317 := Tryz.func248.trans (congrArg some (by kernel_rfl))
 f318 := Tryz.func249.trans (congrArg some (by kernel_rfl))
 f319 := Tryz.func250.trans (congrArg some (by kernel_rfl))
 f320 := Tryz.func251.trans (congrArg some (by kernel_rfl))
 f321 := Tryz.func268.trans (congrArg some (by kernel_rfl))
 f322 := Tryz.func269.trans (congrArg some (by kernel_rfl))
 f337 := Tryz.func270.trans (congrArg some (by kernel_rfl))
 f338 := Tryz.func271.trans (congrArg some (by kernel_rfl))
 t0 := Tryz.underlying0
 a0 := Tryz.isAgg0
 z0 := Tryz.sizeOf0
 v0 := Tryz.zeroValue0
 t2 := Tryz.underlying2
 a2 := Tryz.isAgg2
 z2 := Tryz.sizeOf2
 v2 := Tryz.zeroValue2
 t3 := Tryz.underlying3
 a3 := Tryz.isAgg3
 z3 := Tryz.sizeOf3
 v3 := Tryz.zeroValue3
 t4 := Tryz.underlying4
 a4 := Tryz.isAgg4
 z4 := Tryz.sizeOf4
 v4 := Tryz.zeroValue4
 t5 := Tryz.underlying5
 a5 := Tryz.isAgg5
 z5 := Tryz.sizeOf5
 v5 := Tryz.zeroValue5
 t9 := Tryz.underlying9
 a9 := Tryz.isAgg9
 z9 := Tryz.sizeOf9
 v9 := Tryz.zeroValue9
 t20 := Tryz.underlying20
 a20 := Tryz.isAgg20
 z20 := Tryz.sizeOf20
 v20 := Tryz.zeroValue20
 t21 := Tryz.underlying21
 a21 := Tryz.isAgg21
 z21 := Tryz.sizeOf21
 v21 := Tryz.zeroValue21
 t37 := Tryz.underlying106
 a37 := Tryz.isAgg106
 z37 := Tryz.sizeOf106
 v37 := Tryz.zeroValue106
 t46 := Tryz.underlying155
 a46 := Tryz.isAgg155
 z46 := Tryz.sizeOf155
 v46 := Tryz.zeroValue155
 t51 := Tryz.underlying201
 a51 := Tryz.isAgg201
 z51 := Tryz.sizeOf201
 v51 := Tryz.zeroValue201
 t53 := Tryz.underlying203
 a53 := Tryz.isAgg203
 z53 := Tryz.sizeOf203
 v53 := Tryz.zeroValue203
 t75 := Tryz.underlying110
 a75 := Tryz.isAgg110
 z75 := Tryz.sizeOf110
 v75 := Tryz.zeroValue110
 t76 := Tryz.underlying112
 a76 := Tryz.isAgg112
 z76 := Tryz.sizeOf112
 v76 := Tryz.zeroValue112
 t85 := Tryz.underlying234
 a85 := Tryz.isAgg234
 z85 := Tryz.sizeOf234
 v85 := Tryz.zeroValue234
 t127 := Tryz.underlying161
 a127 := Tryz.isAgg161
 z127 := Tryz.sizeOf161
 v127 := Tryz.zeroValue161
 t143 := Tryz.underlying276
 a143 := Tryz.isAgg276
 z143 := Tryz.sizeOf276
 v143 := Tryz.zeroValue276
 t145 := Tryz.underlying278
 a145 := Tryz.isAgg278
 z145 := Tryz.sizeOf278
 v145 := Tryz.zeroValue278
 t167 := Tryz.underlying233
 a167 := Tryz.isAgg233
 z167 := Tryz.sizeOf233
 v167 := Tryz.zeroValue233
 t168 := Tryz.underlying236
 a168 := Tryz.isAgg236
 z168 := Tryz.sizeOf236
 v168 := Tryz.zeroValue236
 t171 := Tryz.underlying239
 a171 := Tryz.isAgg239
 z171 := Tryz.sizeOf239
 v171 := Tryz.zeroValue239
 t173 := Tryz.underlying241
 a173 := Tryz.isAgg241
 z173 := Tryz.sizeOf241
 v173 := Tryz.zeroValue241
 t175 := Tryz.underlying254
 a175 := Tryz.isAgg254
 z175 := Tryz.sizeOf254
 v175 := Tryz.zeroValue254
 t210 := Tryz.underlying257
 a210 := Tryz.isAgg257
 z210 := Tryz.sizeOf257
 v210 := Tryz.zeroValue257
 t212 := Tryz.underlying260
 a212 := Tryz.isAgg260
 z212 := Tryz.sizeOf260
 v212 := Tryz.zeroValue260
 t213 := Tryz.underlying261
 a213 := Tryz.isAgg261
 z213 := Tryz.sizeOf261
 t232 := Tryz.underlying288
 a232 := Tryz.isAgg288
 z232 := Tryz.sizeOf288
 v232 := Tryz.zeroValue288
 t233 := Tryz.underlying289
 a233 := Tryz.isAgg289
 z233 := Tryz.sizeOf289
 v233 := Tryz.zeroValue289
 g15 := by kernel_rfl
 g16 := by kernel_rfl
 g17 := by kernel_rfl
 g18 := by kernel_rfl
 g19 := by kernel_rfl }
end Go.Proofs

namespace Go.Te
open Go Go.Sx Go.Proofs Go.Ar Go.Lib
set_option maxRecDepth 100000
set_option maxHeartbeats 4000000
end Go.Te

namespace Go.Te
open Go Go.Sx Go.Proofs Go.Ar
set_option maxRecDepth 100000
set_option maxHeartbeats 4000000
end Go.Te
