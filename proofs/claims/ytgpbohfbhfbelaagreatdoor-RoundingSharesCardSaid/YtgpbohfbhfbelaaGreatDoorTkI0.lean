/- What the walks of integer in general lean on. -/
import Derived.Test.YtgpbohfbhfbelaaGreatDoorTkF
import Derived.Test.YtgpbohfbhfbelaaGreatDoorArA
import Derived.Test.YtgpbohfbhfbelaaGreatDoorArN
import Derived.Shelf.Strings.Builder1
import Derived.Test.YtgpbohfbhfbelaaGreatDoorProg
import Derived.Test.YtgpbohfbhfbelaaGreatDoorTkS
import Derived.Test.YtgpbohfbhfbelaaGreatDoorSxU
set_option linter.unusedSimpArgs false
set_option linter.unusedVariables false
namespace Go.Te
open Go Go.Sx Go.Proofs Go.Ar Go.Lib
set_option maxRecDepth 100000
def u6 (l : List Int) : OB := .arr 3 1 l.length fun i _ => .i (l.getD i 0)
theorem SP (l : List Int) (v : Int) (i j : Nat) (hi : i < l.length + 1) (_ : j < 1) : zi (if i < l.length then AV.v (Value.int IntKind.i64 (l.getD i 0)) else AV.v (Value.int IntKind.i64 v)) (AV.v (Value.int IntKind.i64 ((l ++ [v]).getD i 0))) := by
 refine Zj ?_
 split
 ·rename_i h
  rw [List.getD_eq_getElem?_getD, List.getD_eq_getElem?_getD, List.getElem?_append_left h]
 ·obtain rfl : i = l.length := by omega
  rw [List.getD_eq_getElem?_getD (l := l ++ [v]), List.getElem?_append_right (Nat.le_refl _), Nat.sub_self]; rfl
theorem Ro (l : List Int) (k : Nat) (v : Int) (hk : k < l.length) (i j : Nat) (hj : j < 1) : zi (if i = k ∧ j < 1 then AV.v (Value.int IntKind.i64 v) else AV.v (Value.int IntKind.i64 (l.getD i 0))) (AV.v (Value.int IntKind.i64 ((l.set k v).getD i 0))) := by
 refine Zj ?_
 rw [Yj l i k v hk]
 by_cases e : i = k
 ·rw [if_pos ⟨e, hj⟩, if_pos e]
 ·rw [if_neg fun h => e h.1, if_neg e]
theorem VN (n i j : Nat) (hj : j < 1) : zi (ZC (Value.int IntKind.i64 0) j) (AV.v (Value.int IntKind.i64 ((List.replicate n (0 : Int)).getD i 0))) := by
 obtain rfl : j = 0 := by omega
 rw [Vr]; exact Zj rfl
structure yO where
 out : List Int
 c : Int
structure yU where
 i : Nat
 out : List Int
structure yW where
 k : Nat
 c : Int
 out : List Int
theorem _root_.Go.Ar.MulK.fin {b : Int} {x y : List Int} {z k : Nat} {out : List Int} {c : Int} (h : MulK b x y z k out c) (hk : y.length ≤ k) (hk2 : k ≤ y.length + 1) (hc : c = 0) : WB b x y (z + 1) out := by
 subst hc
 refine ⟨h.len, h.in_, fun i hi => h.zero i (by omega) (by omega), ?_⟩
 have hv := h.val
 rw [Int.mul_zero, Int.add_zero, Y5 (x := y) hk] at hv
 rw [hv, Zs b x, Int.add_mul, Int.mul_assoc]
theorem Kz (b g : Int) : zt b [g] = g := by simp [zt]
structure Big where
 neg : Bool
 l : List Int
instance : zR Big := ⟨2, ⟨false, []⟩, fun c => zw [.b c.neg, Zl c.l], fun cs => ⟨AV.bool (cs 0), Zn (cs 1)⟩, fun cs => isBool (cs 0) && ze Int (cs 1), fun cs h j hj => by
 simp only [Bool.and_eq_true] at h
 match j, hj with
 | 0, _ => exact Zj (sX h.1)
 | 1, _ => exact zI h.2⟩
def FO (l : zj) : OB := .arr 5 1 l.length fun i _ => .v (.int .u8 ((l.getD i 0).toNat : Int))
instance : YR Big := ⟨fun c => by cases c; simp [zR.enc, zR.dec, zw, wH, AV.bool], fun c => by cases c; simp [zR.enc, zR.ok, zw, Xj, isBool]⟩
theorem Xy (f : Bool) (l : List Int) : yR (AV.agg 2 (zw [AV.v (Value.bool f), AV.xl false 1 l.length fun i j => AV.v (Value.int IntKind.i64 (l.getD i 0))])) = (⟨f, l⟩ : Big) := Um (⟨f, l⟩ : Big)
theorem xY (f : Bool) (l : List Int) : yo Big (AV.agg 2 (zw [AV.v (Value.bool f), AV.xl false 1 l.length fun i j => AV.v (Value.int IntKind.i64 (l.getD i 0))])) = true := Vg (⟨f, l⟩ : Big)
def F8 (l : zj) : AV → Bool
 | .str s => s == l
 | _ => false
theorem Ke {l : zj} (x : AV) (h : F8 l x = true) : zi x (.str l) := by
 unfold F8 at h
 split at h
 ·rw [eq_of_beq h]; exact zV _
 ·cases h
end Go.Te

namespace Go.Te
open Go Go.Sx Go.Proofs Go.Ar Go.Lib
set_option maxRecDepth 100000
set_option maxHeartbeats 4000000
theorem XV {p : Nat → Prop} : Vx p 0 := trivial
theorem Yb {l : List Int} {z i : Nat} (h : i < z) : (l.take z).getD i 0 = l.getD i 0 := by
 rw [List.getD_eq_getElem?_getD, List.getElem?_take, if_pos h, ← List.getD_eq_getElem?_getD]
def Mq (l : List Int) : yV :=
 .two .auto (.two (.one (.loop Nat (fun σ z => [(0, Zl (l.take z))]) (fun σ z => []) 0 (fun σ z => z ≤ l.length ∧ ∀ i, z ≤ i → l.getD i 0 = 0) (fun σ z => z) .auto)) .auto)
def vX : List AV → Option (List zN × AV)
 | [x_l] => some ([.b (ze Int x_l)], Zl (zf (zU x_l)))
 | _ => none
theorem Lf (l : List Int) :
 zB [xI l] → (∃ (z : Nat), ((z ≤ lN l ∧ ∀ (i : Nat), z ≤ i → gD l i iZ = iZ) ∧ (false = true → false = true) ∧ 1 = 1 ∧ lN (List.take z l) = lN l ∧ ∀ (i j : Nat), i < lN l → j < 1 → kI ∧ gD l i zR.dflt = gD (List.take z l) i zR.dflt) ∧ True) ∧ ∀ (z : Nat), let q2 := (zM iZ (lZ (List.take z l))); let q1 := (!zS true q2 || zS true q2); let q4 := ((lZ (List.take z l)) - iO);
 let q3 := (ZB .i64 q4); (z ≤ lN l ∧ ∀ (i : Nat), z ≤ i → gD l i iZ = iZ) → bF q1 (bF q1 (bF (!zS true q2 || DB.db q3) (bF q1 (bF q1 (bF (!zS true q2 || DB.db (iZ ≤ (lZ (List.take z l)) - iO ∧ (lZ (List.take z l)) - iO < (lZ (List.take z l)))) (bF q1 (bF q1 (bF (!zM iZ (lZ (List.take z l)) || zS true q2) (zZ (bif zM iZ (lZ (List.take z l)) then gD (List.take z l) (Int.toNat q4) zR.dflt
 == iZ else false) (bF (DB.db q3) (bF (DB.db (iZ ≤ (lZ (List.take z l)) - iO ∧ (lZ (List.take z l)) - iO ≤ (lZ (List.take z l)))) (∃ (z' : Nat), (((z' ≤ lN l ∧ ∀ (i : Nat), z' ≤ i → gD l i iZ = iZ) ∧ z' < z) ∧ (false = true → false = true) ∧ 1 = 1 ∧ lN (List.take z' l) = Int.toNat q4 ∧ ∀ (i j : Nat), i < Int.toNat q4 → j < 1 → kI ∧ gD (List.take z l) i zR.dflt = gD (List.take z' l) i zR.dflt) ∧ True))) ((false = true → false
 = true) ∧ 1 = 1 ∧ lN (zf l) = lN (List.take z l) ∧ ∀ (i j : Nat), i < lN (List.take z l) → j < 1 → kI ∧ gD (List.take z l) i zR.dflt = gD (zf l) i zR.dflt)))))))))) := by
 delta bF xI kI lZ lN gD iZ iO
 dsimp only
 intro hb
 have e0 : (zR.dflt : Int) = 0 := rfl
 simp only [↓Zf, ↓Zu, row_one]
 simp only [sS, dS, e0, xJ, Qz]
 have hb1 : l.length ≤ 9223372036854775807 := hb.1
 have lt : ∀ z, z ≤ l.length → (l.take z).length = z := fun z h => by rw [List.length_take]; omega
 refine ⟨⟨l.length, ⟨Nat.le_refl _, fun i hi => W5 hi⟩, fun h => h, lt _ (Nat.le_refl _), fun i j hi _ => (Yb hi).symm⟩, fun z ⟨h1, h2⟩ => ?_⟩
 rw [lt z h1]
 refine ⟨fun hp => ?_, fun hp => ?_, zY.2 ⟨fun c => ?_, fun c => ?_⟩⟩
 ·have := (Zx _ _).1 hp; exact ⟨by omega, by omega⟩
 ·have := (Zx _ _).1 hp; exact ⟨by omega, by omega⟩
 ·rw [Bool.and_eq_true, beq_iff_eq] at c
  have hp := (Zx _ _).1 c.1
  have c2 := c.2
  rw [Yb (by omega)] at c2
  refine ⟨⟨by omega, by omega⟩, ⟨by omega, by omega⟩, z - 1, ⟨⟨by omega, fun i hi => ?_⟩, by omega⟩, fun h => h, lt _ (by omega), fun i j hi _ => by rw [Yb (by omega), Yb hi]⟩
  by_cases e : i = z - 1
  ·rw [e]; exact c2
  ·exact h2 i (by omega)
 ·have ht := vU h1 h2 (by
   by_cases hz : z = 0
   ·exact .inl hz
   ·refine .inr fun e => ?_
    rw [Yb (by omega), e, (Zx _ _).2 (by omega)] at c
    cases c)
  rw [ht]
  exact ⟨fun h => h, lt z h1, fun i j hi _ => rfl⟩
theorem KQ (l : List Int) : zv Tryz.prog [] 136 [Zl l] (Zl (zf l)) :=
 zW (T := T0) (an := Mq l) mixed zr (Eq.mp (by kernel_rfl) (Lf l))
theorem Uo : zQ Tryz.prog [] 136 vX := by
 intro xs ps r h hp
 unfold vX at h
 split at h
 ·skip
  rename_i x_l
  cases h
  obtain ⟨q0, -⟩ := ZT hp
  exact weaken (ys := [Zl (zU x_l)]) ⟨zI q0, trivial⟩ (KQ (zU x_l))
 ·cases h
def VR : List AV → Option (List zN × AV)
 | [x_l, .v (.int .i64 i)] => some ([.b (ze Int x_l), .p (0 ≤ i)], .i ((zU x_l).getD i.toNat 0))
 | _ => none
theorem ND (l : List Int) (i : Int) (h0 : 0 ≤ i) :
 zB [xI l, aI i] → zZ (zM i (lZ l)) (bF (DB.db (iZ ≤ i ∧ i < (lZ l))) (kI ∧ gD l (Int.toNat i) zR.dflt = gD l (Int.toNat i) iZ)) (kI ∧ iZ = gD l (Int.toNat i) iZ) := by
 delta bF xI kI lZ gD iZ aI
 intro hb
 have e0 : (zR.dflt : Int) = 0 := rfl
 simp only [sS, dS, e0, xJ]
 exact ⟨fun h => ⟨h0, h⟩, fun h => (W5 (by omega)).symm⟩
theorem kE (l : List Int) (i : Int) (h0 : 0 ≤ i) : zv Tryz.prog [] 161 [Zl l, .i i] (.i (l.getD i.toNat 0)) :=
 zW (T := T0) (an := .auto) mixed zr (Eq.mp (by kernel_rfl) (ND l i h0))
theorem rm : zQ Tryz.prog [] 161 VR := by
 intro xs ps r h hp
 unfold VR at h
 split at h
 ·skip
  rename_i x_l i
  cases h
  obtain ⟨q0, q1, -⟩ := ZT hp
  exact weaken (ys := [Zl (zU x_l), .i i]) ⟨zI q0, zV _, trivial⟩ (kE (zU x_l) i q1)
 ·cases h
def rj : List AV → Option (List zN × AV)
 | [.v (.int .i64 x), .v (.int .i64 y), .v (.int .i64 c)] => some ([.p (0 ≤ x ∧ x ≤ 999999999), .p (0 ≤ y ∧ y ≤ 999999999), .p (0 ≤ c ∧ c ≤ 999999999)], .tup 2 (zw [.i ((x + y + c).tmod 1000000000), .i ((x + y + c).tdiv 1000000000)]))
 | _ => none
theorem mt (x : Int) (y : Int) (c : Int) (h1 : 0 ≤ x ∧ x ≤ 999999999) (h2 : 0 ≤ y ∧ y ≤ 999999999) (h3 : 0 ≤ c ∧ c ≤ 999999999) :
 zB [aI x, aI y, aI c] → bF (dK (x + y)) (bF (dK (x + y + c)) (bF (dK (x + y)) (bF (dK (x + y + c)) (bF (dK (Int.tdiv (x + y + c) iB)) (j2 ∧ (True ∧ kI ∧ Int.tmod (x + y + c) iB = Int.tmod (x + y + c) iB) ∧ kI ∧ Int.tdiv (x + y + c) iB = Int.tdiv (x + y + c) iB))))) := by
 delta bF dK kI j2 iB aI
 intro hb
 simp only [sS, dS]
 have hd : 0 ≤ (x + y + c).tdiv 1000000000 ∧ (x + y + c).tdiv 1000000000 ≤ x + y + c := by
  rw [Int.tdiv_eq_ediv_of_nonneg (by omega)]; omega
 exact ⟨⟨by omega, by omega⟩, ⟨by omega, by omega⟩, ⟨by omega, by omega⟩, ⟨by omega, by omega⟩, ⟨by omega, by omega⟩, rfl⟩
theorem jZ (x : Int) (y : Int) (c : Int) (h1 : 0 ≤ x ∧ x ≤ 999999999) (h2 : 0 ≤ y ∧ y ≤ 999999999) (h3 : 0 ≤ c ∧ c ≤ 999999999) : zv Tryz.prog [] 138 [.i x, .i y, .i c] (.tup 2 (zw [.i ((x + y + c).tmod 1000000000), .i ((x + y + c).tdiv 1000000000)])) :=
 zW (T := T0) (an := .auto) mixed zr (Eq.mp (by kernel_rfl) (mt x y c h1 h2 h3))
theorem jS : zQ Tryz.prog [] 138 rj := by
 intro xs ps r h hp
 unfold rj at h
 split at h
 ·skip
  rename_i x y c
  cases h
  obtain ⟨q0, q1, q2, -⟩ := ZT hp
  exact weaken (ys := [.i x, .i y, .i c]) ⟨zV _, zV _, zV _, trivial⟩ (jZ x y c q0 q1 q2)
 ·cases h
def Uj : List AV → Option (List zN × AV)
 | [.v (.int .i64 x), .v (.int .i64 y), .v (.int .i64 c)] => some ([.p (0 ≤ x ∧ x ≤ 999999999), .p (0 ≤ y ∧ y ≤ 999999999), .p (0 ≤ c ∧ c ≤ 999999999)], .tup 2 (zw [.i (bif zM (x - y - c) 0 then x - y - c + 1000000000 else x - y - c), .i (bif zM (x - y - c) 0 then 1 else 0)]))
 | _ => none
theorem Nx (x : Int) (y : Int) (c : Int) (h1 : 0 ≤ x ∧ x ≤ 999999999) (h2 : 0 ≤ y ∧ y ≤ 999999999) (h3 : 0 ≤ c ∧ c ≤ 999999999) :
 zB [aI x, aI y, aI c] → bF (dK (x - y)) (bF (dK (x - y - c)) (zZ (leB iZ (x - y - c)) (j2 ∧ (True ∧ kI ∧ x - y - c = bif zM (x - y - c) iZ then x - y - c + iB else x - y - c) ∧ kI ∧ iZ = bif zM (x - y - c) iZ then iO else iZ) (bF (dK (x - y)) (bF (dK (x - y - c)) (bF (dK (x - y - c + iB)) (2 = List.length
 [AV.junk, AV.junk] ∧ (True ∧ kI ∧ x - y - c + iB = bif zM (x - y - c) iZ then x - y - c + iB else x - y - c) ∧ kI ∧ iO = bif zM (x - y - c) iZ then iO else iZ)))))) := by
 delta bF dK kI j2 iZ iO iB aI
 intro hb
 simp only [sS, dS]
 refine ⟨⟨by omega, by omega⟩, ⟨by omega, by omega⟩, fun h => ?_, fun h => ⟨⟨by omega, by omega⟩, ⟨by omega, by omega⟩, ⟨by omega, by omega⟩, ?_⟩⟩
 ·rw [show zM (x - y - c) 0 = false by rw [Bool.eq_false_iff, Ne, zq]; omega]
  exact ⟨rfl, rfl, rfl⟩
 ·rw [show zM (x - y - c) 0 = true by rw [zq]; omega]
  exact ⟨rfl, rfl, rfl⟩
theorem Lm (x : Int) (y : Int) (c : Int) (h1 : 0 ≤ x ∧ x ≤ 999999999) (h2 : 0 ≤ y ∧ y ≤ 999999999) (h3 : 0 ≤ c ∧ c ≤ 999999999) : zv Tryz.prog [] 140 [.i x, .i y, .i c] (.tup 2 (zw [.i (bif zM (x - y - c) 0 then x - y - c + 1000000000 else x - y - c), .i (bif zM (x - y - c) 0 then 1 else 0)])) :=
 zW (T := T0) (an := .auto) mixed zr (Eq.mp (by kernel_rfl) (Nx x y c h1 h2 h3))
theorem Mx : zQ Tryz.prog [] 140 Uj := by
 intro xs ps r h hp
 unfold Uj at h
 split at h
 ·skip
  rename_i x y c
  cases h
  obtain ⟨q0, q1, q2, -⟩ := ZT hp
  exact weaken (ys := [.i x, .i y, .i c]) ⟨zV _, zV _, zV _, trivial⟩ (Lm x y c q0 q1 q2)
 ·cases h
noncomputable def FR : Tb := (((T0.plus 136 vX).plus 161 VR).plus 138 rj).plus 140 Uj
theorem uY : zz Tryz.prog FR := zz.plus (zz.plus (zz.plus (zz.plus zr Uo) rm) jS) Mx
def lG (x y : List Int) : yV :=
 .two .auto (.two .auto (.two .auto (.two (.two .auto (.one (.loop yO (fun σ z => [(0, σ.tm 0), (1, σ.tm 1), (2, σ.tm 2), (17, σ.tm 17), (7, .ns σ.nb 0 z.out.length), (8, .i z.c), (18, .i (z.out.length : Int))]) (fun σ z => [(σ.nb, u6 z.out)]) 1 (fun σ z => Uz 1000000000 x y z.out.length z.out z.c ∧ z.out.length ≤ max x.length y.length + 1) (fun σ z => max x.length y.length + 1 - z.out.length) .auto))) .auto)))
def Rp : List AV → Option (List zN × AV)
 | [x_x, x_y, .fn (.func 138) 0 fa_ 0 fc_] => some ([.b (ze Int x_x), .b (ze Int x_y), .p (ZR 1000000000 (zU x_x)), .p (ZR 1000000000 (zU x_y)), .p ((zU x_x).length ≤ 1000000000), .p ((zU x_y).length ≤ 1000000000)], Zl (zT 1000000000 (zt 1000000000 (zU x_x) + zt 1000000000 (zU x_y)).toNat))
 | _ => none
theorem md (x : List Int) (y : List Int) (hx : ZR 1000000000 x) (hy : ZR 1000000000 y) (hlx : x.length ≤ 1000000000) (hly : y.length ≤ 1000000000) :
 let q2 := (if (lZ y) > (lZ x) then (lZ y) else (lZ x)); let q1 := (q2 + iO); let q3 := (xI x); let q4 := (xI y); let q5 := (AV.fn (Fn.func (138 : FuncId)) 0 (fun (x : Nat) => AV.junk) 0 fun (x : Nat) => AV.junk); let q6 := (kI ∧ q2 + iO = q2 + iO); let q7 := (zU q3); let q9 := (zU q4); let q12 := (zT 1000000000
 (Int.toNat (zt iB x + zt iB y))); zB [xI x, xI y, AV.fn (Fn.func (138 : FuncId)) 0 (fun (x : Nat) => AV.junk) 0 fun (x : Nat) => AV.junk] → bF (dK q1) ((∃ (z : yO), ((Uz iB x y (lN (yO.out z)) (yO.out z) (yO.c z) ∧ lN (yO.out z) ≤ max (lN x) (lN y) + 1) ∧ zi q3 q3 ∧ zi q4 q4 ∧ zi q5 q5 ∧ q6 ∧ (some (Xd Nat) = some
 (Xd Nat) ∧ 0 = 0 ∧ lN (yO.out z) = 0) ∧ (kI ∧ iZ = yO.c z) ∧ kI ∧ iZ = (lZ (yO.out z))) ∧ lN (yO.out z) = 0) ∧ ∀ (z : yO), let q8 := (Int.toNat (lZ (yO.out z))); let q10 := (gD q7 q8 iZ + gD q9 q8 iZ + yO.c z); let q11 := (AV.xl false 1 (lN (yO.out z)) fun i j => aI (gD (yO.out z) (0 + i) iZ)); let q13 := (zf (zU q11)); Uz iB x y (lN (yO.out z)) (yO.out z) (yO.c z) ∧ List.length
 (yO.out z) ≤ max (lN x) (lN y) + 1 → zZ (zM (lZ (yO.out z)) q1) (bF (ze Int q3) (iZ ≤ (lZ (yO.out z)) ∧ bF (ze Int q4) (iZ ≤ (lZ (yO.out z)) ∧ (iZ ≤ gD q7 q8 iZ ∧ gD q7 q8 iZ ≤ (999999999 : Int)) ∧ (iZ ≤ gD q9 q8 iZ ∧ gD q9 q8 iZ ≤ (999999999 : Int)) ∧ (iZ ≤ yO.c z ∧ yO.c z ≤ (999999999 : Int)) ∧ bF (DB.db ((lN (yO.out z) + 1) * 8 ≤ 140737488355328)) (bF (dK ((cI (List.length
 (yO.out z))) + iO)) (∃ (z' : yO), (((Uz iB x y (lN (yO.out z')) (yO.out z') (yO.c z') ∧ lN (yO.out z') ≤ max (lN x) (lN y) + 1) ∧ max (lN x) (lN y) + 1 - lN (yO.out z') < max (lN x) (lN y) + 1 - lN (yO.out z)) ∧ zi q3 q3 ∧ zi q4 q4 ∧ zi q5 q5 ∧ q6 ∧ (nat_lit 0 = 0 ∧ 0 = 0 ∧ lN (yO.out z') = lN (yO.out z) + 1) ∧ (kI ∧ Int.tdiv q10 iB = yO.c z') ∧ kI ∧ (lZ (yO.out z)) + iO
 = (lZ (yO.out z'))) ∧ (3 : TypeId) = 3 ∧ 1 = 1 ∧ lN (yO.out z') = lN (yO.out z) + 1 ∧ ∀ (i j : Nat), i < lN (yO.out z) + 1 → j < 1 → zi (if i < lN (yO.out z) then aI (gD (yO.out z) i iZ) else Sx.rowAt [fun (x_1 : Nat) => aI (Int.tmod q10 iB)] (i - lN (yO.out z)) j) (aI (gD (yO.out z') i iZ))))))) (bF (ze Int q11) ((false = true → false = true) ∧ 1 = 1 ∧ lN q12 = lN q13 ∧ ∀ (i j
 : Nat), i < lN q13 → j < 1 → kI ∧ gD q13 i zR.dflt = gD q12 i zR.dflt))) := by
 delta bF dK xI cI kI lZ lN gD iZ iO iB aI
 dsimp only
 intro hb
 have e0 : (zR.dflt : Int) = 0 := rfl
 simp only [↓Zf, ↓Zu, row_one]
 simp only [sS, dS, e0]
 have em : (if (y.length : Int) > (x.length : Int) then (y.length : Int) else (x.length : Int)) = ((max x.length y.length : Nat) : Int) := by split <;> omega
 rw [em]
 have hm : max x.length y.length ≤ 1000000000 := by omega
 have hm1 : x.length ≤ max x.length y.length := by omega
 have hm2 : y.length ≤ max x.length y.length := by omega
 generalize max x.length y.length = m at *
 refine ⟨⟨by omega, by omega⟩, ⟨⟨[], 0⟩, ⟨⟨.zero _ _ _, by simp⟩, rfl, rfl, rfl⟩, rfl⟩, fun z ⟨z1, z2⟩ => ⟨fun hz => ?_, fun hz => ?_⟩⟩
 ·have g1 := hx.get (by omega) z.out.length
  have g2 := hy.get (by omega) z.out.length
  have c0 := z1.c0
  have c1 := z1.c1
  have hs := Uz.step (by omega) hx hy z1
  exact ⟨by omega, by omega, ⟨by omega, by omega⟩, ⟨by omega, by omega⟩, ⟨by omega, by omega⟩, by omega, ⟨by omega, by omega⟩, ⟨z.out ++ [(x.getD z.out.length 0 + y.getD z.out.length 0 + z.c).tmod 1000000000], (x.getD z.out.length 0 + y.getD z.out.length 0 + z.c).tdiv 1000000000⟩, ⟨⟨⟨by simp only [List.length_append, List.length_singleton]; exact hs, by simp; omega⟩, by simp; omega⟩, by simp, rfl, by simp⟩, by simp, fun i j => SP _ _ i j⟩
 ·have he := z1.end_ (b := 1000000000) (by omega) hx hy (by omega) (by omega)
  rw [he]
  exact ⟨fun h => h, rfl, fun _ _ _ _ => rfl⟩
theorem jh (x : List Int) (y : List Int) (hx : ZR 1000000000 x) (hy : ZR 1000000000 y) (hlx : x.length ≤ 1000000000) (hly : y.length ≤ 1000000000) : zv Tryz.prog [] 137 [Zl x, Zl y, jK 138] (Zl (zT 1000000000 (zt 1000000000 x + zt 1000000000 y).toNat)) :=
 zW (T := FR) (an := lG x y) mixed uY (Eq.mp (by kernel_rfl) (md x y hx hy hlx hly))
theorem KP : zQ Tryz.prog [] 137 Rp := by
 intro xs ps r h hp
 unfold Rp at h
 split at h
 ·skip
  rename_i x_x x_y fa_ fc_
  cases h
  obtain ⟨q0, q1, q2, q3, q4, q5, -⟩ := ZT hp
  exact weaken (ys := [Zl (zU x_x), Zl (zU x_y), jK 138]) ⟨zI q0, zI q1, ⟨rfl, rfl, rfl, XV, XV⟩, trivial⟩ (jh (zU x_x) (zU x_y) q2 q3 q4 q5)
 ·cases h
def lP (x y : List Int) : yV :=
 .two .auto (.two .auto (.two .auto (.two (.two .auto (.one (.loop yO (fun σ z => [(0, σ.tm 0), (1, σ.tm 1), (2, σ.tm 2), (17, σ.tm 17), (7, .ns σ.nb 0 z.out.length), (8, .i z.c), (18, .i (z.out.length : Int))]) (fun σ z => [(σ.nb, u6 z.out)]) 1 (fun σ z => uk 1000000000 x y z.out.length z.out z.c ∧ z.out.length ≤ max x.length y.length + 1) (fun σ z => max x.length y.length + 1 - z.out.length) .auto))) .auto)))
def rR : List AV → Option (List zN × AV)
 | [x_x, x_y, .fn (.func 140) 0 fa_ 0 fc_] => some ([.b (ze Int x_x), .b (ze Int x_y), .p (ZR 1000000000 (zU x_x)), .p (ZR 1000000000 (zU x_y)), .p ((zU x_x).length ≤ 1000000000), .p ((zU x_y).length ≤ 1000000000), .p (zt 1000000000 (zU x_y) ≤ zt 1000000000 (zU x_x))], Zl (zT 1000000000 (zt 1000000000 (zU x_x) - zt 1000000000 (zU x_y)).toNat))
 | _ => none
theorem LL (x : List Int) (y : List Int) (hx : ZR 1000000000 x) (hy : ZR 1000000000 y) (hlx : x.length ≤ 1000000000) (hly : y.length ≤ 1000000000) (hle : zt 1000000000 y ≤ zt 1000000000 x) :
 let q2 := (if (lZ y) > (lZ x) then (lZ y) else (lZ x)); let q1 := (q2 + iO); let q3 := (xI x); let q4 := (xI y); let q5 := (AV.fn (Fn.func (140 : FuncId)) 0 (fun (x : Nat) => AV.junk) 0 fun (x : Nat) => AV.junk); let q6 := (kI ∧ q2 + iO = q2 + iO); let q7 := (zU q3); let q9 := (zU q4); let q12 := (zT 1000000000
 (Int.toNat (zt iB x - zt iB y))); zB [xI x, xI y, AV.fn (Fn.func (140 : FuncId)) 0 (fun (x : Nat) => AV.junk) 0 fun (x : Nat) => AV.junk] → bF (dK q1) ((∃ (z : yO), ((uk iB x y (lN (yO.out z)) (yO.out z) (yO.c z) ∧ lN (yO.out z) ≤ max (lN x) (lN y) + 1) ∧ zi q3 q3 ∧ zi q4 q4 ∧ zi q5 q5 ∧ q6 ∧ (some (Xd Nat) = some
 (Xd Nat) ∧ 0 = 0 ∧ lN (yO.out z) = 0) ∧ (kI ∧ iZ = yO.c z) ∧ kI ∧ iZ = (lZ (yO.out z))) ∧ lN (yO.out z) = 0) ∧ ∀ (z : yO), let q8 := (Int.toNat (lZ (yO.out z))); let q10 := (gD q7 q8 iZ - gD q9 q8 iZ - yO.c z); let q11 := (AV.xl false 1 (lN (yO.out z)) fun i j => aI (gD (yO.out z) (0 + i) iZ)); let q13 := (zf (zU q11)); uk iB x y (lN (yO.out z)) (yO.out z) (yO.c z) ∧ List.length
 (yO.out z) ≤ max (lN x) (lN y) + 1 → zZ (zM (lZ (yO.out z)) q1) (bF (ze Int q3) (iZ ≤ (lZ (yO.out z)) ∧ bF (ze Int q4) (iZ ≤ (lZ (yO.out z)) ∧ (iZ ≤ gD q7 q8 iZ ∧ gD q7 q8 iZ ≤ (999999999 : Int)) ∧ (iZ ≤ gD q9 q8 iZ ∧ gD q9 q8 iZ ≤ (999999999 : Int)) ∧ (iZ ≤ yO.c z ∧ yO.c z ≤ (999999999 : Int)) ∧ bF (DB.db ((lN (yO.out z) + 1) * 8 ≤ 140737488355328)) (bF (dK ((cI (List.length
 (yO.out z))) + iO)) (∃ (z' : yO), (((uk iB x y (lN (yO.out z')) (yO.out z') (yO.c z') ∧ lN (yO.out z') ≤ max (lN x) (lN y) + 1) ∧ max (lN x) (lN y) + 1 - lN (yO.out z') < max (lN x) (lN y) + 1 - lN (yO.out z)) ∧ zi q3 q3 ∧ zi q4 q4 ∧ zi q5 q5 ∧ q6 ∧ (nat_lit 0 = 0 ∧ 0 = 0 ∧ lN (yO.out z') = lN (yO.out z) + 1) ∧ (kI ∧ (bif zM q10 iZ then iO else iZ) = yO.c z') ∧ kI ∧ (lZ (yO.out
 z)) + iO = (lZ (yO.out z'))) ∧ (3 : TypeId) = 3 ∧ 1 = 1 ∧ lN (yO.out z') = lN (yO.out z) + 1 ∧ ∀ (i j : Nat), i < lN (yO.out z) + 1 → j < 1 → zi (if i < lN (yO.out z) then aI (gD (yO.out z) i iZ) else Sx.rowAt [fun (x_1 : Nat) => aI (bif zM q10 iZ then gD q7 q8 iZ - gD q9 q8 iZ - yO.c z + iB else gD q7 q8 iZ - gD q9 q8 iZ - yO.c z)] (i - lN (yO.out z)) j) (AV.v (Value.int .i64
 (gD (yO.out z') i iZ)))))))) (bF (ze Int q11) ((false = true → false = true) ∧ 1 = 1 ∧ lN q12 = lN q13 ∧ ∀ (i j : Nat), i < lN q13 → j < 1 → kI ∧ gD q13 i zR.dflt = gD q12 i zR.dflt))) := by
 delta bF dK xI cI kI lZ lN gD iZ iO iB aI
 dsimp only
 intro hb
 have e0 : (zR.dflt : Int) = 0 := rfl
 simp only [↓Zf, ↓Zu, row_one]
 simp only [sS, dS, e0]
 have em : (if (y.length : Int) > (x.length : Int) then (y.length : Int) else (x.length : Int)) = ((max x.length y.length : Nat) : Int) := by split <;> omega
 rw [em]
 have hm : max x.length y.length ≤ 1000000000 := by omega
 have hm1 : x.length ≤ max x.length y.length := by omega
 have hm2 : y.length ≤ max x.length y.length := by omega
 generalize max x.length y.length = m at *
 refine ⟨⟨by omega, by omega⟩, ⟨⟨[], 0⟩, ⟨⟨.zero _ _ _, by simp⟩, rfl, rfl, rfl⟩, rfl⟩, fun z ⟨z1, z2⟩ => ⟨fun hz => ?_, fun hz => ?_⟩⟩
 ·have g1 := hx.get (by omega) z.out.length
  have g2 := hy.get (by omega) z.out.length
  have c0 := z1.c0
  have c1 := z1.c1
  have hs := uk.step (by omega) hx hy z1
  refine ⟨by omega, by omega, ⟨by omega, by omega⟩, ⟨by omega, by omega⟩, ⟨by omega, by omega⟩, by omega, ⟨by omega, by omega⟩, ?_⟩
  by_cases hn : x.getD z.out.length 0 - y.getD z.out.length 0 - z.c < 0
  ·rw [show zM (x.getD z.out.length 0 - y.getD z.out.length 0 - z.c) 0 = true from (zq _ _).2 hn]
   exact ⟨⟨_, 1⟩, ⟨⟨⟨by simpa using hs.2 hn, by simp; omega⟩, by simp; omega⟩, by simp, rfl, by simp⟩, by simp, fun i j => SP _ _ i j⟩
  ·rw [show zM (x.getD z.out.length 0 - y.getD z.out.length 0 - z.c) 0 = false by rw [Bool.eq_false_iff, Ne, zq]; exact hn]
   exact ⟨⟨_, 0⟩, ⟨⟨⟨by simpa using hs.1 (by omega), by simp; omega⟩, by simp; omega⟩, by simp, rfl, by simp⟩, by simp, fun i j => SP _ _ i j⟩
 ·have he := z1.end_ (b := 1000000000) (by omega) (by omega) (by omega) hle
  rw [he]
  exact ⟨fun h => h, rfl, fun _ _ _ _ => rfl⟩
theorem KV (x : List Int) (y : List Int) (hx : ZR 1000000000 x) (hy : ZR 1000000000 y) (hlx : x.length ≤ 1000000000) (hly : y.length ≤ 1000000000) (hle : zt 1000000000 y ≤ zt 1000000000 x) : zv Tryz.prog [] 137 [Zl x, Zl y, jK 140] (Zl (zT 1000000000 (zt 1000000000 x - zt 1000000000 y).toNat)) :=
 zW (T := FR) (an := lP x y) mixed uY (Eq.mp (by kernel_rfl) (LL x y hx hy hlx hly hle))
theorem Kr : zQ Tryz.prog [] 137 rR := by
 intro xs ps r h hp
 unfold rR at h
 split at h
 ·skip
  rename_i x_x x_y fa_ fc_
  cases h
  obtain ⟨q0, q1, q2, q3, q4, q5, q6, -⟩ := ZT hp
  exact weaken (ys := [Zl (zU x_x), Zl (zU x_y), jK 140]) ⟨zI q0, zI q1, ⟨rfl, rfl, rfl, XV, XV⟩, trivial⟩ (KV (zU x_x) (zU x_y) q2 q3 q4 q5 q6)
 ·cases h
end Go.Te

namespace Go.Te
open Go Go.Sx Go.Proofs Go.Ar
set_option maxRecDepth 100000
set_option maxHeartbeats 4000000
noncomputable def ep : Tb := T0.body Tryz.prog [(191, .auto)]
theorem OK : zz Tryz.prog ep := zz.body mixed zr _
def Ka (x y : List Int) : yV :=
 .two .auto (.one (.loop Nat (fun σ z => [(0, σ.tm 0), (1, σ.tm 1), (3, .i ((z : Int) - 1))]) (fun _ z => []) 0
  (fun _ z => z ≤ x.length ∧ ∀ i, z ≤ i → i < x.length → x.getD i 0 = y.getD i 0) (fun _ z => z) .auto))
def ku (x y : List Int) : yV :=
 .two .auto (.two .auto (.two (.two .auto (.one (.range (Ka x y) .auto .auto))) .auto))
def UA : List AV → Option (List zN × AV)
 | [x_x, x_y] => some ([.b (ze Int x_x), .b (ze Int x_y), .p (ZR 1000000000 (zU x_x)), .p (ZR 1000000000 (zU x_y))], .i (cmpL (zU x_x) (zU x_y)))
 | _ => none
theorem kO (x : List Int) (y : List Int) (hx : ZR 1000000000 x) (hy : ZR 1000000000 y) :
 let q2 := (xI y); let q3 := (xI x); let q1 := (((50 = 50 ∧ 1 = 1 ∧ zi q2 q2) ∧ 3 = 3 ∧ 1 = 1 ∧ kI ∧ iZ = iZ) ∧ 50 = 50 ∧ 1 = 1 ∧ zi q3 q3); zB [xI x, xI y] → zZ ((lZ x) != (lZ y)) (bF (DB.db
 (ZB .i64 ((lZ x) - (lZ y)))) (kI ∧ (lZ x) - (lZ y) = cmpL x y)) (bF (dK ((lZ x) - iO)) ((∃ (z : Nat), ((z ≤ lN x ∧ ∀ (i : Nat), z ≤ i → i < lN x → gD x i iZ = gD y i iZ) ∧ nat_lit 3 = 3 ∧ (nat_lit 2 = 2 ∧ 0 = 0) ∧ kI ∧ (lZ x) - iO = (cI z) - iO) ∧ q1 ∧ lR) ∧ ∀ (z : Nat), let q4 := (DB.db (iZ ≤ (cI z)
 - iO ∧ (cI z) - iO < (lZ y))); (z ≤ lN x ∧ ∀ (i : Nat), z ≤ i → i < lN x → gD x i iZ = gD y i iZ) → zZ (leB iZ ((cI z) - iO)) (bF (DB.db (iZ ≤ (cI z) - iO ∧ (cI z) - iO < (lZ x))) (zZ q4 (zZ (gD x (Int.toNat ((cI z) - iO)) zR.dflt != gD y (Int.toNat ((cI z) - iO)) zR.dflt) (bF q4 (bF (dK (gD x (Int.toNat ((cI z) - iO)) zR.dflt - gD y (Int.toNat ((↑z :
 Int) - iO)) zR.dflt)) (kI ∧ gD x (Int.toNat ((cI z) - iO)) zR.dflt - gD y (Int.toNat ((cI z) - iO)) zR.dflt = cmpL x y))) (bF (dK ((cI z) - iO - iO)) (∃ (z' : Nat), (((z' ≤ lN x ∧ ∀ (i : Nat), z' ≤ i → i < lN x → gD x i iZ = gD y i iZ) ∧ z' < z) ∧ nat_lit 3 = 3 ∧ (nat_lit 2 = 2 ∧ 0 = 0) ∧ kI ∧ (cI z) - iO - iO = (cI z') - iO) ∧ q1 ∧ lR)))
 False)) (kI ∧ iZ = cmpL x y))) := by
 delta bF dK xI lR cI kI lZ lN gD iZ iO
 dsimp only
 intro hb
 have e0 : (zR.dflt : Int) = 0 := rfl
 simp only [↓Zf, ↓Zu, row_one]
 simp only [sS, dS, e0]
 simp only [Qz]
 have hx1 : x.length ≤ 9223372036854775807 := hb.1.1
 have hy1 : y.length ≤ 9223372036854775807 := hb.2.1
 refine ⟨fun hne => ⟨⟨by omega, by omega⟩, ?_⟩, fun heq => ⟨⟨by omega, by omega⟩, ⟨x.length, ⟨Nat.le_refl _, fun i h1 h2 => by omega⟩, rfl⟩, fun z ⟨h1, h2⟩ => ⟨fun hz => ?_, fun hz => ?_⟩⟩⟩
 ·exact (Jw (fun e => hne (by omega))).symm
 ·have hd : Ar.cmpL x y = xW x y z := by rw [cmpL_eq (by omega), uv h1 h2]
  have hd2 : xW x y z = bif x.getD (z - 1) 0 != y.getD (z - 1) 0 then x.getD (z - 1) 0 - y.getD (z - 1) 0 else xW x y (z - 1) := by
   conv => lhs; rw [show z = z - 1 + 1 by omega]
   rfl
  have g1 := hx.get (by omega) (z - 1)
  have g2 := hy.get (by omega) (z - 1)
  refine ⟨⟨by omega, by omega⟩, ⟨by omega, by omega⟩, fun h => ⟨⟨by omega, by omega⟩, ⟨by omega, by omega⟩, ?_⟩, fun h => ⟨⟨by omega, by omega⟩, z - 1, ⟨⟨by omega, fun i h4 h5 => ?_⟩, by omega⟩, by omega⟩⟩
  ·rw [hd, hd2, bne_iff_ne.2 h]; rfl
  ·by_cases e : i = z - 1
   ·rw [e]; exact h
   ·exact h2 i (by omega) h5
 ·rw [cmpL_eq (by omega), uv h1 h2, show z = 0 by omega]; rfl
theorem HQ (x : List Int) (y : List Int) (hx : ZR 1000000000 x) (hy : ZR 1000000000 y) : zv Tryz.prog [] 139 [Zl x, Zl y] (.i (cmpL x y)) :=
 zW (T := ep) (an := ku x y) mixed OK (Eq.mp (by kernel_rfl) (kO x y hx hy))
theorem po : zQ Tryz.prog [] 139 UA := by
 intro xs ps r h hp
 unfold UA at h
 split at h
 ·skip
  rename_i x_x x_y
  cases h
  obtain ⟨q0, q1, q2, q3, -⟩ := ZT hp
  exact weaken (ys := [Zl (zU x_x), Zl (zU x_y)]) ⟨zI q0, zI q1, trivial⟩ (HQ (zU x_x) (zU x_y) q2 q3)
 ·cases h
def sI (x y : List Int) : yV :=
 .two .auto (.two .auto (.two (.two .auto (.one (.loop yU (fun σ z => [(1, σ.tm 1), (5, σ.tm 5), (18, σ.tm 18), (19, σ.tm 19), (20, .i (z.i : Int))]) (fun σ z => [(yC (σ.tm 5), u6 z.out)]) 0 (fun σ z => WB 1000000000 x y z.i z.out ∧ z.i ≤ x.length) (fun σ z => x.length - z.i) (.two .auto (.two .auto (.two (.one (.two .auto (.two .auto (.two .auto (.one (.loop yW (fun σ z => [(1, σ.tm 1), (5, σ.tm 5), (6, σ.tm 6), (7, σ.tm 7), (18, σ.tm 18), (19, σ.tm 19), (20, σ.tm 20), (27, σ.tm 27), (8, .i z.c), (28, .i (z.k : Int))]) (fun σ z => [(yC (σ.tm 5), u6 z.out)]) 0 (fun σ z => MulK 1000000000 x y (AV.int (σ.tm 6)).toNat z.k z.out z.c ∧ z.k ≤ y.length + 1 ∧ (z.k = y.length + 1 → z.c = 0)) (fun σ z => y.length + 1 - z.k) .auto)))))) .auto)))))) .auto))
def U3 : List AV → Option (List zN × AV)
 | [x_x, x_y] => some ([.b (ze Int x_x), .b (ze Int x_y), .p (ZR 1000000000 (zU x_x)), .p (ZR 1000000000 (zU x_y)), .p ((zU x_x).length ≤ 1000000000), .p ((zU x_y).length ≤ 1000000000)], Zl (zT 1000000000 (zt 1000000000 (zU x_x) * zt 1000000000 (zU x_y)).toNat))
 | _ => none
theorem NN (x : List Int) (y : List Int) (hx : ZR 1000000000 x) (hy : ZR 1000000000 y) (hlx : x.length ≤ 1000000000) (hly : y.length ≤ 1000000000) :
 let q1 := ((lZ x) + (lZ y) + iO); let q2 := (xI y); let q3 := (nat_lit 0 = 0 ∧ 0 = 0 ∧ Int.toNat q1 = Int.toNat q1); let q4 := (xI x); let q5 := (kI ∧ (lZ x) = (lZ x)); let q9 := (kI ∧ (lZ y) + iO = (lZ y) + iO); let q13 := (Int.toNat q1); let q14 := (zU q2); let q18 :=
 (zT 1000000000 (Int.toNat (zt iB x * zt iB y))); zB [xI x, xI y] → bF (dK ((lZ x) + (lZ y))) (bF (dK q1) (bF (DB.db (iZ ≤ (lZ x) + (lZ y) + iO ∧ (lZ x) + (lZ y) + iO ≤ (lZ x) + (lZ y) + (1
 : Int) ∧ (↑8 : Int) * q1 ≤ (140737488355328 : Int))) ((∃ (z : yU), ((WB iB x y (yU.i z) (yU.out z) ∧ yU.i z ≤ lN x) ∧ zi q2 q2 ∧ q3 ∧ zi q4 q4 ∧ q5 ∧ kI ∧ iZ = (cI (yU.i z))) ∧ (3 : TypeId) = 3 ∧ 1 = 1 ∧ lN (yU.out z) = Int.toNat q1 ∧ ∀ (i j : Nat), i < Int.toNat q1 → j < 1 → zi (ZC (Value.int .i64 iZ) j) (aI (gD (yU.out z) i iZ))) ∧ ∀ (z : yU), let q6 := (Int.toNat (AV.int (aI (cI (yU.i z))))); let q7 := (kI ∧ (cI (yU.i z)) = (cI (yU.i
 z))); let q8 := (kI ∧ gD x (Int.toNat (cI (yU.i z))) zR.dflt = gD x (Int.toNat (cI (yU.i z))) zR.dflt); let q17 := (AV.xl false 1 q13 fun i j => aI (gD (yU.out z) (0 + i) iZ)); let q19 := (zf (zU q17)); WB iB x y (yU.i z) (yU.out z) ∧ yU.i z ≤ lN x → zZ (zM (cI (yU.i z)) (lZ x)) (bF (DB.db (iZ ≤ (cI (yU.i z)) ∧ (cI (yU.i z)) < (lZ x))) (bF (dK ((lZ y) + iO)) ((∃ (z_1 :
 yW), ((MulK iB x y q6 (yW.k z_1) (yW.out z_1) (yW.c z_1) ∧ yW.k z_1 ≤ lN y + 1 ∧ (yW.k z_1 = lN y + 1 → yW.c z_1 = iZ)) ∧ zi q2 q2 ∧ q3 ∧ q7 ∧ q8 ∧ zi q4 q4 ∧ q5 ∧ q7 ∧ q9 ∧ (kI ∧ iZ = yW.c z_1) ∧ kI ∧ iZ = (cI (yW.k z_1))) ∧ 3 = 3 ∧ 1 = 1 ∧ lN (yW.out z_1) = lN (yU.out z) ∧ ∀ (i j : Nat), i < lN (yU.out z) → j < 1 → kI ∧ gD (yU.out z) i iZ = gD (yW.out z_1) i iZ) ∧ ∀ (z_1 : yW), let q11 := ((cI (yU.i z)) +
 (cI (yW.k z_1))); let q10 := (dK q11); let q12 := (DB.db (iZ ≤ (cI (yU.i z)) + (cI (yW.k z_1)) ∧ (cI (yU.i z)) + (cI (yW.k z_1)) < (cI q13))); let q15 := (0 + Int.toNat q11); let q16 := (gD (yW.out z_1) q15 iZ + gD x (Int.toNat (cI (yU.i z))) zR.dflt * gD q14 (Int.toNat (cI (yW.k z_1))) iZ + yW.c z_1); MulK iB x y q6 (yW.k z_1) (yW.out z_1) (yW.c z_1) ∧ yW.k z_1 ≤ lN y + 1 ∧ (yW.k z_1 = lN y + 1 → yW.c z_1 = iZ) → zZ (zM (cI (yW.k z_1))
 ((lZ y) + iO)) (bF q10 (bF q12 (bF (ze Int q2) (iZ ≤ (cI (yW.k z_1)) ∧ bF (dK (gD x (Int.toNat (cI (yU.i z))) zR.dflt * gD q14 (Int.toNat (cI (yW.k z_1))) iZ)) (bF (dK (gD (yW.out z_1) q15 iZ + gD x (Int.toNat (cI (yU.i z))) zR.dflt * gD q14 (Int.toNat (cI (yW.k z_1))) iZ)) (bF (dK q16) (bF q10 (bF (dK (Int.tdiv q16 iB)) (bF q12 (bF (dK ((↑(yW.k z_1) :
 Int) + iO)) (∃ (z' : yW), (((MulK iB x y q6 (yW.k z') (yW.out z') (yW.c z') ∧ yW.k z' ≤ lN y + 1 ∧ (yW.k z' = lN y + 1 → yW.c z' = iZ)) ∧ lN y + 1 - yW.k z' < lN y + 1 - yW.k z_1) ∧ zi q2 q2 ∧ q3 ∧ q7 ∧ q8 ∧ zi q4 q4 ∧ q5 ∧ q7 ∧ q9 ∧ (kI ∧ Int.tdiv q16 iB = yW.c z') ∧ kI ∧ (cI (yW.k z_1)) + iO = (cI (yW.k z'))) ∧ 3 = 3 ∧ 1 = 1 ∧ lN (yW.out z') = lN (yW.out z_1) ∧ ∀ (i j : Nat), i < lN (yW.out z_1) → j < 1 → zi (if i = 0 +
 Int.toNat q11 ∧ 0 ≤ j ∧ j < 1 then aI (Int.tmod q16 iB) else aI (gD (yW.out z_1) i iZ)) (aI (gD (yW.out z') i iZ))))))))))))) (bF (dK ((cI (yU.i z)) + iO)) (∃ (z' : yU), (((WB iB x y (yU.i z') (yU.out z') ∧ yU.i z' ≤ lN x) ∧ lN x - yU.i z' < lN x - yU.i z) ∧ zi q2 q2 ∧ q3 ∧ zi q4 q4 ∧ q5 ∧ kI ∧ (cI (yU.i z)) + iO = (cI (yU.i
 z'))) ∧ 3 = 3 ∧ 1 = 1 ∧ lN (yU.out z') = lN (yW.out z_1) ∧ ∀ (i j : Nat), i < lN (yW.out z_1) → j < 1 → kI ∧ gD (yW.out z_1) i iZ = gD (yU.out z') i iZ))))) (bF (ze Int q17) ((false = true → false = true) ∧ 1 = 1 ∧ lN q18 = lN q19 ∧ ∀ (i j : Nat), i < lN q19 → j < 1 → kI ∧ gD q19 i zR.dflt = gD q18 i zR.dflt))))) := by
 delta bF dK xI cI kI lZ lN gD iZ iO iB aI
 dsimp only
 intro hb
 have e0 : (zR.dflt : Int) = 0 := rfl
 simp only [↓Zf, ↓Zu, row_one]
 simp only [sS, dS, e0]
 have en : ((x.length : Int) + (y.length : Int) + 1).toNat = x.length + y.length + 1 := by omega
 rw [en]
 refine ⟨⟨by omega, by omega⟩, ⟨by omega, by omega⟩, ⟨by omega, Int.le_refl _, by omega⟩, ⟨⟨0, List.replicate (x.length + y.length + 1) 0⟩, ⟨⟨.zero_ (by omega) _ _, Nat.zero_le _⟩, rfl⟩, by simp, fun i j _ hj => VN _ i j hj⟩, fun z ⟨z1, z2⟩ => ⟨fun hz => ⟨⟨by omega, hz⟩, ⟨by omega, by omega⟩, ⟨⟨0, 0, z.out⟩, ⟨⟨z1.start (by omega), Nat.zero_le _, fun h => rfl⟩, rfl, rfl⟩, rfl, fun _ _ _ _ => rfl⟩, fun w ⟨w1, w2, w3⟩ => ⟨fun hk0 => ?_, fun hk0 => ?_⟩⟩, fun hz => ?_⟩⟩
 ·have hz' : z.i < x.length := by omega
  have w4 := w1.len
  have hk : w.k ≤ y.length := by omega
  have ek : ((z.i : Int) + (w.k : Int)).toNat = z.i + w.k := by omega
  rw [ek]
  obtain ⟨⟨n0, n1⟩, hs⟩ := w1.step (by omega) hx hy hz' hk
  have g1 := hx.get (by omega) z.i
  have g2 := hy.get (by omega) w.k
  have g3 := w1.in_.get (by omega) (z.i + w.k)
  have c0 := w1.c0
  have c1 := w1.c1
  have p0 : 0 ≤ x.getD z.i 0 * y.getD w.k 0 := Int.mul_nonneg g1.1 g2.1
  have d0 := hs.c0
  have d1 := hs.c1
  refine ⟨⟨by omega, by omega⟩, ⟨by omega, by omega⟩, by omega, ⟨by omega, by omega⟩, ⟨by omega, by omega⟩, ⟨by omega, by omega⟩, ⟨by omega, by omega⟩, ⟨by omega, by omega⟩, ⟨by omega, by omega⟩, ⟨by omega, by omega⟩, ⟨w.k + 1, _, _⟩, ⟨⟨⟨hs, by simp only; omega, fun h => ?_⟩, by simp only; omega⟩, rfl, rfl⟩, by simp, fun i j _ => Ro _ _ _ (by omega) i j⟩
  have hk' : w.k = y.length := by simp only at h; omega
  have := (hk' ▸ w1 : MulK 1000000000 x y z.i y.length w.out w.c).last (by omega)
  rw [← hk'] at this
  exact this
 ·have c0 := w1.c0
  have hc := w3 (by omega)
  exact ⟨⟨by omega, by omega⟩, ⟨z.i + 1, w.out⟩, ⟨⟨⟨w1.fin (by omega) w2 hc, by simp only; omega⟩, by simp only; omega⟩, rfl⟩, rfl, fun _ _ _ _ => rfl⟩
 ·have hz' : z.i = x.length := by omega
  have he := (hz' ▸ z1 : WB 1000000000 x y x.length z.out).end_ (b := 1000000000) (by omega)
  rw [← z1.len]
  simp only [sS, dS, e0]
  rw [he]
  exact ⟨fun h => h, rfl, fun _ _ _ _ => rfl⟩
theorem NE (x : List Int) (y : List Int) (hx : ZR 1000000000 x) (hy : ZR 1000000000 y) (hlx : x.length ≤ 1000000000) (hly : y.length ≤ 1000000000) : zv Tryz.prog [] 101 [Zl x, Zl y] (Zl (zT 1000000000 (zt 1000000000 x * zt 1000000000 y).toNat)) :=
 zW (T := FR) (an := sI x y) mixed uY (Eq.mp (by kernel_rfl) (NN x y hx hy hlx hly))
theorem mn : zQ Tryz.prog [] 101 U3 := by
 intro xs ps r h hp
 unfold U3 at h
 split at h
 ·skip
  rename_i x_x x_y
  cases h
  obtain ⟨q0, q1, q2, q3, q4, q5, -⟩ := ZT hp
  exact weaken (ys := [Zl (zU x_x), Zl (zU x_y)]) ⟨zI q0, zI q1, trivial⟩ (NE (zU x_x) (zU x_y) q2 q3 q4 q5)
 ·cases h
end Go.Te

namespace Go.Te
open Go Go.Sx Go.Proofs Go.Ar
set_option maxRecDepth 100000
set_option maxHeartbeats 4000000
theorem mg {a : zj} (h : Zy a = true) : Z6 (zp a) = true ∧ (zX a).natAbs = zc (zp a) := by
 rcases yd h with ⟨r, rfl, h1, _, h3⟩ | ⟨h1, h3⟩
 ·exact ⟨h1, by rw [h3]; show _ = zc r; omega⟩
 ·have hm : zJ a = false := by
   unfold zJ
   rw [beq_eq_false_iff_ne]
   intro e
   have h0 := (Zt.1 h1).1
   have := (Zt.1 h1).2.1 _ (Wj (s := a) (i := 0) h0)
   rw [e] at this
   cases this
  rw [← rF hm]
  exact ⟨h1, by rw [h3]; omega⟩
structure YT where
 z : Nat
 u : Int
 L : List Int
noncomputable def eE : Tb := ((T0.plus 129 (Yq fun s => .tup 2 (zw [.str (zp s), .b (zJ s)]))).plus 136 vX).body Tryz.prog [(135, .auto)]
theorem Oq : zz Tryz.prog eE := zz.body mixed (zz.plus (zz.plus zr pN) Uo) _
def MN (a : zj) : yV :=
 .two .auto (.one (.loop YT (fun σ z => [(0, σ.tm 0), (1, σ.tm 1), (5, σ.tm 5), (6, .i z.z)]) (fun _ z => [(1, u6 z.L), (3, .box 3 1 fun _ => .i z.u)]) 0
  (fun _ z => ov 9 (zp a) z.z z.L ∧ (z.z % 9 ≠ 0 → z.u = 10 ^ (z.z % 9)) ∧ 1 ≤ z.u ∧ z.u ≤ 1000000000) (fun _ z => (zp a).length - z.z) .auto))
def M9 (a : zj) : yV :=
 .two .auto (.two .auto (.two .auto (.two .auto (.two (.two .auto (.one (.range (MN a) .auto .auto))) .auto))))
def US : List AV → Option (List zN × AV)
 | [.str a] => some ([.p (Zy a = true), .p (a.length ≤ 100000000)], .agg 2 (zw [.b (zJ a), Zl (zT 1000000000 (zX a).natAbs)]))
 | _ => none
theorem mf (a : List UInt8) (hi : Zy a = true) (hl : a.length ≤ 100000000) :
 let q1 := ((lZ (zp a)) + (9 : Int) - iO); let q2 := (Int.tdiv q1 (9 : Int)); let q3 := (kI ∧ (lZ (zp a)) = (lZ (zp a))); let q4 := (114 = 114 ∧ 2 = 2 ∧ false = false ∧ Value.slice (Xd Addr) 0 0 = Array.getD (Value.cells (Value.agg #[Value.bool false, Value.slice (Xd Addr) 0 0])) (nat_lit 1) undef); let q9 := (Int.toNat q2); let q15 := (zT 1000000000 (Int.natAbs (zX a))); zB [AV.str a] → bF (dK ((lZ (zp a)) + (9 : Int))) (bF (dK q1) (bF (DB.db
 (ZB .i64 q2)) (bF (DB.db (iZ ≤ Int.tdiv q1 (9 : Int) ∧ Int.tdiv q1 (9 : Int) ≤ Int.tdiv q1 (9 : Int) ∧ (↑8 : Int) * Int.tdiv q1 (9 : Int) ≤ (140737488355328 : Int))) ((∃ (z : YT), ((ov 9 (zp a) (YT.z z) (YT.L z) ∧ (YT.z z % 9 ≠ 0 → YT.u z = (10 : Int) ^ (YT.z z % 9)) ∧ iO ≤ YT.u z ∧ YT.u z ≤ iB) ∧ nat_lit 5 = 5 ∧ (nat_lit 4 = 4 ∧ 0 = 0) ∧ q3 ∧ kI ∧ iZ = (cI (YT.z z))) ∧ ((((q4 ∧ (3 : TypeId) = 3 ∧ 1 = 1 ∧ lN (YT.L z) = Int.toNat q2 ∧ ∀ (i j : Nat), i < Int.toNat q2 → j < 1 → zi (ZC (Value.int .i64 iZ)
 j) (aI (gD (YT.L z) i iZ))) ∧ 114 = 114 ∧ 2 = 2 ∧ zJ a = zJ a ∧ nat_lit 1 = 1 ∧ 0 = 0 ∧ Int.toNat q2 = Int.toNat q2) ∧ (3 : TypeId) = 3 ∧ 1 = 1 ∧ kI ∧ iO = YT.u z) ∧ 9 = 9 ∧ 1 = 1 ∧ zp a = zp a) ∧ lR) ∧ ∀ (z : YT), let q5 := ((lZ (zp a)) - iO - (cI (YT.z z))); let q6 := ((cI (UInt8.toNat (gD (zp a) (Int.toNat q5) (0 : UInt8)))) - (48 : Int)); let q7 := (dK (Int.tdiv (cI (YT.z z)) (9 : Int))); let q8 := (DB.db ((0
 : Int) ≤ Int.tdiv (cI (YT.z z)) (9 : Int) ∧ Int.tdiv (cI (YT.z z)) (9 : Int) < (cI q9))); let q11 := (0 + Int.toNat (Int.tdiv (cI (YT.z z)) (9 : Int))); let q10 := (gD (YT.L z) q11 iZ + q6 * iO); let q12 := (dK ((cI (YT.z z)) + iO)); let q13 := (gD (YT.L z) q11 iZ + q6 * YT.u z); let q14 := (AV.xl false 1 q9 fun i j => aI (gD (YT.L z) (0 + i) iZ)); let q16 := (zf (zU q14)); ov 9 (zp a) (YT.z z) (YT.L z) ∧ (YT.z z % 9 ≠ 0 → YT.u z = (10 : Int) ^ (YT.z z % 9)) ∧ (1 :
 Int) ≤ YT.u z ∧ YT.u z ≤ iB → zZ (zM (cI (YT.z z)) (lZ (zp a))) (bF (dK ((lZ (zp a)) - iO)) (bF (dK q5) (bF (DB.db (iZ ≤ (lZ (zp a)) - iO - (cI (YT.z z)) ∧ (lZ (zp a)) - iO - (cI (YT.z z)) < (lZ (zp a)))) (bF (DB.db (ZB IntKind.u8 q6)) (bF (dK q6) (zZ (Int.tmod (cI (YT.z z)) (9 : Int) == iZ) (bF q7 (bF q8 (bF (dK (q6 * (1 :
 Int))) (bF (dK q10) (bF q8 (bF q12 (∃ (z' : YT), (((ov 9 (zp a) (YT.z z') (YT.L z') ∧ (YT.z z' % 9 ≠ 0 → YT.u z' = (10 : Int) ^ (YT.z z' % 9)) ∧ iO ≤ YT.u z' ∧ YT.u z' ≤ iB) ∧ lN (zp a) - YT.z z' < lN (zp a) - YT.z z) ∧ nat_lit 5 = 5 ∧ (nat_lit 4 = 4 ∧ 0 = 0) ∧ q3 ∧ kI ∧ (cI (YT.z z)) + iO = (cI (YT.z z'))) ∧ ((((q4 ∧ 3 = 3 ∧ 1 = 1 ∧ lN (YT.L z') = lN (YT.L z) ∧ ∀ (i j : Nat), i < lN (YT.L z) → j < 1 → zi (if i = 0 + Int.toNat (Int.tdiv (↑(YT.z z)
 : Int) (9 : Int)) ∧ 0 ≤ j ∧ j < 1 then aI q10 else aI (gD (YT.L z) i iZ)) (aI (gD (YT.L z') i iZ))) ∧ 114 = 114 ∧ 2 = 2 ∧ zJ a = zJ a ∧ nat_lit 1 = 1 ∧ 0 = 0 ∧ Int.toNat q2 = Int.toNat q2) ∧ 3 = 3 ∧ 1 = 1 ∧ kI ∧ iO * (10 : Int) = YT.u z') ∧ 9 = 9 ∧ 1 = 1 ∧ zp a = zp a) ∧ lR))))))) (bF q7 (bF q8 (bF (dK (q6 * YT.u z)) (bF (dK q13) (zZ q8
 (bF (dK (YT.u z * (10 : Int))) (bF q12 (∃ (z' : YT), (((ov 9 (zp a) (YT.z z') (YT.L z') ∧ (YT.z z' % 9 ≠ 0 → YT.u z' = (10 : Int) ^ (YT.z z' % 9)) ∧ iO ≤ YT.u z' ∧ YT.u z' ≤ iB) ∧ lN (zp a) - YT.z z' < lN (zp a) - YT.z z) ∧ nat_lit 5 = 5 ∧ (nat_lit 4 = 4 ∧ 0 = 0) ∧ q3 ∧ kI ∧ (cI (YT.z z)) + iO = (cI (YT.z z'))) ∧ ((((q4 ∧ 3 = 3 ∧ 1 = 1 ∧ lN (YT.L z') = lN (YT.L z) ∧ ∀ (i j : Nat), i < lN (YT.L z) → j < 1 → zi (if i = 0 + Int.toNat (Int.tdiv (↑(YT.z z)
 : Int) (9 : Int)) ∧ 0 ≤ j ∧ j < 1 then aI q13 else aI (gD (YT.L z) i iZ)) (aI (gD (YT.L z') i iZ))) ∧ 114 = 114 ∧ 2 = 2 ∧ zJ a = zJ a ∧ nat_lit 1 = 1 ∧ 0 = 0 ∧ Int.toNat q2 = Int.toNat q2) ∧ 3 = 3 ∧ 1 = 1 ∧ kI ∧ YT.u z * (10 : Int) = YT.u z') ∧ 9 = 9 ∧ 1 = 1 ∧ zp a = zp a) ∧ lR))) False))))))))))) (bF (ze Int q14) (2 = 2 ∧ zJ a = zJ a ∧ (false = true →
 false = true) ∧ 1 = 1 ∧ lN q15 = lN q16 ∧ ∀ (i j : Nat), i < lN q16 → j < 1 → kI ∧ gD q16 i zR.dflt = gD q15 i zR.dflt)))))) := by
 delta bF dK lR cI kI lZ lN gD iZ iO iB aI
 dsimp only
 intro hb
 have e0 : (zR.dflt : Int) = 0 := rfl
 simp only [↓Zf, ↓Zu, row_one]
 simp only [sS, dS, e0]
 have hol := tL a
 have hds : Z6 (zp a) = true ∧ (zX a).natAbs = zc (zp a) := mg hi
 have hall := (Zt.1 hds.1).2.1
 have hpos := (Zt.1 hds.1).1
 rw [hds.2]
 generalize zp a = s at *
 have ed : ((s.length : Int) + 9 - 1).tdiv 9 = ((s.length + 9 - 1) / 9 : Nat) := by rw [Int.tdiv_eq_ediv_of_nonneg (by omega)]; omega
 have ez : ∀ z : Nat, (z : Int).tdiv 9 = (z / 9 : Nat) := fun z => by rw [Int.tdiv_eq_ediv_of_nonneg (by omega)]; omega
 have em : ∀ z : Nat, (z : Int).tmod 9 = (z % 9 : Nat) := fun z => by rw [Int.tmod_eq_emod_of_nonneg (by omega)]; omega
 have en : ∀ z : Nat, ((s.length : Int) - 1 - (z : Int)).toNat = s.length - 1 - z := fun z => by omega
 simp only [ed, ez, em, en, Int.toNat_natCast]
 have hq : (s.length + 9 - 1) / 9 ≤ s.length := by omega
 refine ⟨⟨by omega, by omega⟩, ⟨by omega, by omega⟩, ⟨by omega, by omega⟩, ⟨by omega, Int.le_refl _, by omega⟩, ⟨⟨0, 1, List.replicate ((s.length + 9 - 1) / 9) 0⟩, ⟨⟨ov.start (by omega) s, fun h => absurd rfl h, by simp only; omega, by simp only; omega⟩, rfl⟩, ⟨rfl, by simp, fun i j _ hj => VN _ i j hj⟩, rfl⟩, fun z ⟨z1, z2, z3, z4⟩ => ⟨fun hz => ?_, fun hz => ?_⟩⟩
 ·have hc := hall _ (Wj (s := s) (i := s.length - 1 - z.z) (by omega))
  have hdi := Yu.1 hc
  obtain ⟨l1, hs⟩ := z1.step (by omega) hall (by omega)
  have l2 := z1.len
  have g1 := hs.in_.get (by omega) (z.z / 9)
  rw [Yj _ _ _ _ l1, if_pos rfl] at g1
  have g0 := z1.in_.get (by omega) (z.z / 9)
  have dv : (((s.getD (s.length - 1 - z.z) 0).toNat : Int) - 48) = (Vu (s.getD (s.length - 1 - z.z) 0) : Int) := by unfold Vu; omega
  have d9 := TN hc
  rw [dv]
  generalize Vu (s.getD (s.length - 1 - z.z) 0) = d at *
  have g2 : z.L.getD (z.z / 9) 0 + (d : Int) * 10 ^ (z.z % 9) < 1000000000 := g1.2
  refine ⟨⟨by omega, by omega⟩, ⟨by omega, by omega⟩, ⟨by omega, by omega⟩, ⟨by omega, by omega⟩, ⟨by omega, by omega⟩, fun h0 => ?_, fun h0 => ?_⟩
  ·have h0' : z.z % 9 = 0 := by omega
   rw [h0', Int.pow_zero, Int.mul_one] at g2 hs
   simp only [Int.mul_one]
   refine ⟨⟨by omega, by omega⟩, ⟨by omega, by omega⟩, ⟨by omega, by omega⟩, ⟨by omega, by omega⟩, ⟨by omega, by omega⟩, ⟨by omega, by omega⟩, ⟨z.z + 1, 10, _⟩, ⟨⟨⟨hs, fun _ => ?_, by simp only; omega, by simp only; omega⟩, by simp only; omega⟩, by simp only; omega⟩, ⟨rfl, by simp, fun i j _ => Ro _ _ _ l1 i j⟩, rfl⟩
   simp only
   rw [show (z.z + 1) % 9 = 1 by omega]; rfl
  ·have h0' : z.z % 9 ≠ 0 := by omega
   have hu := z2 h0'
   rw [← hu] at g2 hs
   have hm := Nat.mod_lt z.z (show 0 < 9 by omega)
   have d0 : 0 ≤ (d : Int) * z.u := Int.mul_nonneg (by omega) (by omega)
   have hu9 : z.u ≤ 100000000 := by
    rw [hu]
    have h8 : 10 ^ (z.z % 9) ≤ 100000000 := Nat.le_trans (Nat.pow_le_pow_right (by omega) (show z.z % 9 ≤ 8 by omega)) (by decide)
    have h9 := Int.ofNat_le.2 h8
    rw [Int.natCast_pow] at h9
    exact h9
   refine ⟨⟨by omega, by omega⟩, ⟨by omega, by omega⟩, ⟨by omega, by omega⟩, ⟨by omega, by omega⟩, ⟨by omega, by omega⟩, ⟨by omega, by omega⟩, ⟨by omega, by omega⟩, ⟨z.z + 1, z.u * 10, _⟩, ⟨⟨⟨hs, fun h => ?_, by simp only; omega, by simp only; omega⟩, by simp only; omega⟩, by simp only; omega⟩, ⟨rfl, by simp, fun i j _ => Ro _ _ _ l1 i j⟩, rfl⟩
   simp only at h ⊢
   rw [hu, show (z.z + 1) % 9 = z.z % 9 + 1 by omega, Int.pow_succ]
 ·have ez2 : z.z = s.length := by have := z1.le; omega
  have he := (ez2 ▸ z1 : ov 9 s s.length z.L).end_ (by omega)
  have l2 := z1.len
  rw [← l2]
  simp only [sS, dS, e0]
  rw [show zf z.L = zT 1000000000 (zc s) from he]
  exact ⟨fun h => h, rfl, fun _ _ _ _ => rfl⟩
theorem Jv (a : List UInt8) (hi : Zy a = true) (hl : a.length ≤ 100000000) : zv Tryz.prog [] 87 [.str a] (.agg 2 (zw [.b (zJ a), Zl (zT 1000000000 (zX a).natAbs)])) :=
 zW (T := eE) (an := M9 a) mixed Oq (Eq.mp (by kernel_rfl) (mf a hi hl))
theorem om : zQ Tryz.prog [] 87 US := by
 intro xs ps r h hp
 unfold US at h
 split at h
 ·skip
  rename_i a
  cases h
  obtain ⟨q0, q1, -⟩ := ZT hp
  exact weaken (ys := [.str a]) ⟨zV _, trivial⟩ (Jv a q0 q1)
 ·cases h
end Go.Te

namespace Go.Proofs
open Go.Shelf
def Tryz.lays169_ren : Go.Shelf.Ren := ⟨fun | 169 => 145 | n => n, fun | 70 => 171 | 9 => 9 | 0 => 0 | 72 => 174 | 37 => 172 | 127 => 220 | 3 => 3 | 5 => 5 | n => n, fun | n => n⟩
theorem Tryz.lays169 : Go.Proofs.Lays.n169 Tryz.prog Tryz.lays169_ren := {
 mixed := by kernel_rfl
 f169 := Tryz.func145.trans (congrArg some (by kernel_rfl))
 t0 := Tryz.underlying0
 a0 := Tryz.isAgg0
 z0 := Tryz.sizeOf0
 v0 := Tryz.zeroValue0
 t3 := Tryz.underlying3
 a3 := Tryz.isAgg3
 z3 := Tryz.sizeOf3
 v3 := Tryz.zeroValue3
 t9 := Tryz.underlying9
 a9 := Tryz.isAgg9
 z9 := Tryz.sizeOf9
 v9 := Tryz.zeroValue9
 t37 := Tryz.underlying172
 a37 := Tryz.isAgg172
 z37 := Tryz.sizeOf172
 v37 := Tryz.zeroValue172
 t70 := Tryz.underlying171
 a70 := Tryz.isAgg171
 z70 := Tryz.sizeOf171
 v70 := Tryz.zeroValue171
 t72 := Tryz.underlying174
 a72 := Tryz.isAgg174
 z72 := Tryz.sizeOf174
 v72 := Tryz.zeroValue174
 t127 := Tryz.underlying220
 a127 := Tryz.isAgg220
 z127 := Tryz.sizeOf220
 v127 := Tryz.zeroValue220 }
theorem Tryz.Builder_Extra_169 : Builder.Extra Tryz.prog Tryz.lays169_ren := {
 sizeBuilder := by kernel_rfl
 liesBuilder := by kernel_rfl
 t5 := Tryz.underlying5
 a5 := Tryz.isAgg5
 z5 := Tryz.sizeOf5
 v5 := Tryz.zeroValue5
 infoByte := by kernel_rfl
 cellsByte := by kernel_rfl
 sizeByte := by kernel_rfl
 neB5 := by decide }
end Go.Proofs

namespace Go.Te
open Go Go.Sx Go.Proofs Go.RowKit Go.Shelf
theorem JE : (Tryz.prog.info? 174).map (·.size) = some 2 := by kernel_rfl
theorem fw : liesAt Tryz.prog Tryz.prog.depth 174 (2 / Tryz.prog.cellsOf 174) 0 174 1 = true := by kernel_rfl
set_option maxHeartbeats 1000000 in
set_option maxRecDepth 100000 in
theorem kA (b : Nat) (w : World) (h0 : w.cell? ⟨b, 0, none⟩ = some (.pointer (some ⟨b, 0, none⟩))) :
  Calls Tryz.prog 201 #[.pointer (some ⟨b, 0, none⟩)] w fun e w' => e = .returned (.tuple #[]) ∧ w' = w := by
 obtain ⟨j, hj, _⟩ := Option.map_eq_some_iff.1 JE
 go_enter Tryz.func201, Tryz.ntmps201
 go_wp2
 rw [Lib.run_neq_ptr_same w _ Tryz.underlying171 hj]
 go_wp2
 go_end0
 exact ⟨rfl, rfl⟩
set_option maxHeartbeats 1000000 in
set_option maxRecDepth 100000 in
theorem Mc (b : Nat) (w : World) (h0 : w.cell? ⟨b, 0, none⟩ = some (.pointer none)) (hsh : w.shape? b = some (174, 2)) (hfz : w.frozen? ⟨b, 0, none⟩ = false) :
  Calls Tryz.prog 201 #[.pointer (some ⟨b, 0, none⟩)] w fun e w' => e = .returned (.tuple #[]) ∧ w' = w.setCell ⟨b, 0, none⟩ (.pointer (some ⟨b, 0, none⟩)) := by
 obtain ⟨j, hj, hjs⟩ := Option.map_eq_some_iff.1 JE
 go_enter Tryz.func201, Tryz.ntmps201
 go_wp2
 rw [Lib.run_to_unsafe w ⟨b, 0, none⟩ Tryz.underlying171 Tryz.underlying255 hj (by rw [hjs]; decide) hsh (Nat.zero_lt_succ 1)]
 simp only [Result.andThen]
 rw [Oper.upon_value]
 go_wp2
 rw [run_callFunc_extern Tryz.func238 (by kernel_rfl) (by kernel_rfl) (by kernel_rfl) (e := Extern.AbiNoEscape.same) (by kernel_rfl)]
 rw [Lib.run_noEscape]
 simp only [Result.andThen]
 rw [Oper.upon_value]
 go_wp2
 rw [Lib.run_from_unsafe w ⟨b, 0, none⟩ Tryz.underlying255 Tryz.underlying171 hj hsh fw]
 simp only [Result.andThen]
 rw [Oper.upon_value]
 go_wp2
 go_end0
 exact ⟨rfl, rfl⟩
section
variable {P : Program} {ρ : Ren}
set_option maxHeartbeats 1000000 in
set_option maxRecDepth 100000 in
theorem kW (L : Lays.n169 P ρ) (X : Builder.Extra P ρ) (b g cap : Nat) (p : Value) (cur : Array Value) (l : List UInt8) (w : World) (h0 : l ≠ []) (hbk : w.heap[b]? = some (.cells #[p, .slice (some ⟨g, 0, none⟩) l.length cap] (ρ.t 72) (0, 0)))
  (hg : w.heap[g]? = some (.cells cur (ρ.t 5) (0, 0))) (hnc : l.length ≤ cap) (hcm : cap ≤ maxLen) (hcs : cur.size = cap) (hcell : ∀ (j : Nat) (x : UInt8), l[j]? = some x → cur[j]? = some (Value.int .u8 x.toNat)) :
  Calls P (ρ.f 169) #[.pointer (some ⟨b, 0, none⟩)] w fun e w' => e = .returned (.string ⟨l.toArray⟩) ∧ w' = w.drew.freeze ⟨g, 0, none⟩ l.length := by
 have hl0 : l.length ≠ 0 := by simpa using h0
 have c1 : w.drew.cell? ⟨b, 1, none⟩ = some (.slice (some ⟨g, 0, none⟩) l.length cap) := by
  have : w.drew.heap[b]? = some (.cells #[p, .slice (some ⟨g, 0, none⟩) l.length cap] (ρ.t 72) (0, 0)) := hbk
  rw [Lib.cell_of_heap this]; rfl
 have hSD : (Builtin.unsafeSliceData_ #[(ρ.t 37)] (ρ.t 127) #[.slice (some ⟨g, 0, none⟩) l.length cap]).run P w.drew = .ok (.pointer (some ⟨g, 0, none⟩)) w.drew :=
  Lib.run_unsafeSliceData_row _ _ _ _ _ _ (by omega)
 have hUS : (Builtin.unsafeString_ #[(ρ.t 127), (ρ.t 3)] (ρ.t 9) #[.pointer (some ⟨g, 0, none⟩), .int .i64 l.length]).run P w.drew = .ok (.string ⟨l.toArray⟩) (w.drew.freeze ⟨g, 0, none⟩ l.length) := by
  refine Lib.run_unsafeString_row w.drew (ρ.t 127) (ρ.t 3) (ρ.t 9) (ρ.t 5) L.t127 X.cellsByte g cur.size (by have hg' : w.drew.heap[g]? = some (.cells cur (ρ.t 5) (0, 0)) := hg; simp [World.shape?, hg']) l h0 (by omega) (by unfold maxLen at hcm; omega) ?_
  intro j x hx
  have hg' : w.drew.heap[g]? = some (.cells cur (ρ.t 5) (0, 0)) := hg
  rw [add_lit, Nat.zero_add, Lib.cell_of_heap hg']
  simp_all
 have mixed := L.mixed
 have t72 := L.t72; have a72 := L.a72; have z72 := L.z72; have v72 := L.v72; have u72 := run_underlying L.t72
 have t70 := L.t70; have a70 := L.a70; have z70 := L.z70; have v70 := L.v70; have u70 := run_underlying L.t70
 have t37 := L.t37; have a37 := L.a37; have z37 := L.z37; have v37 := L.v37; have u37 := run_underlying L.t37
 have t127 := L.t127; have a127 := L.a127; have z127 := L.z127; have v127 := L.v127; have u127 := run_underlying L.t127
 have t3 := L.t3; have a3 := L.a3; have z3 := L.z3; have v3 := L.v3; have u3 := run_underlying L.t3
 have t9 := L.t9; have a9 := L.a9; have z9 := L.z9; have v9 := L.v9; have u9 := run_underlying L.t9
 have t5 := X.t5; have a5 := X.a5; have z5 := X.z5; have v5 := X.v5; have u5 := run_underlying X.t5
 go_enter L.f169, Body.n169_ntmps ρ
 go_wp2
 go_region_o
 all_goals (go_wp2; go_ret; exact ⟨rfl, rfl⟩)
set_option maxHeartbeats 2000000 in
set_option maxRecDepth 100000 in
theorem Js (L : Lays.n169 P ρ) (X : Builder.Extra P ρ) (b : Nat) (p : Value) (w : World) (hbk : w.heap[b]? = some (.cells #[p, .slice none 0 0] (ρ.t 72) (0, 0))) :
  Calls P (ρ.f 169) #[.pointer (some ⟨b, 0, none⟩)] w fun e w' => e = .returned (.string ⟨#[]⟩) ∧ w' = w.drew := by
 have hUS := Any.unsafeString_none L X
 have c1 : w.drew.cell? ⟨b, 1, none⟩ = some (.slice none 0 0) := by
  have : w.drew.heap[b]? = some (.cells #[p, .slice none 0 0] (ρ.t 72) (0, 0)) := hbk
  rw [Lib.cell_of_heap this]; rfl
 have hSD : (Builtin.unsafeSliceData_ #[(ρ.t 37)] (ρ.t 127) #[.slice none 0 0]).run P w.drew = .ok (.pointer none) w.drew := rfl
 have mixed := L.mixed
 have t72 := L.t72; have a72 := L.a72; have z72 := L.z72; have v72 := L.v72; have u72 := run_underlying L.t72
 have t70 := L.t70; have a70 := L.a70; have z70 := L.z70; have v70 := L.v70; have u70 := run_underlying L.t70
 have t37 := L.t37; have a37 := L.a37; have z37 := L.z37; have v37 := L.v37; have u37 := run_underlying L.t37
 have t127 := L.t127; have a127 := L.a127; have z127 := L.z127; have v127 := L.v127; have u127 := run_underlying L.t127
 have t3 := L.t3; have a3 := L.a3; have z3 := L.z3; have v3 := L.v3; have u3 := run_underlying L.t3
 have t9 := L.t9; have a9 := L.a9; have z9 := L.z9; have v9 := L.v9; have u9 := run_underlying L.t9
 have t5 := X.t5; have a5 := X.a5; have z5 := X.z5; have v5 := X.v5; have u5 := run_underlying X.t5
 go_enter L.f169, Body.n169_ntmps ρ
 go_wp2
 go_region_o
 all_goals (go_wp2; go_ret; exact ⟨rfl, rfl⟩)
end
section
variable {E : Env} {nb : Nat} {bl : Nat → OB} {S : Nat → Prop} {ρ : Nat → Go.Sx.Own} {w : World}
theorem Mem.off (h : Mem E nb bl S ρ w) {w' : World} (g : Nat) (hw : ∀ b, b ≠ g → w'.heap[b]? = w.heap[b]?) (hsz : w'.heap.size = w.heap.size) (e1 : w'.os = w.os) (e2 : w'.tape = w.tape) (e3 : w'.output = w.output) (e5 : dn w ≤ dn w')
  (hS : ¬ S g) (hρ : ∀ k, ¬ (ρ k).has g) (hg3 : E.w0.heap.size ≤ g ∨ E.X g) : Mem E nb bl S ρ w' ∧ ∀ b, S b → S b ∧ w'.heap[b]? = w.heap[b]? := by
 have hS' : ∀ b, S b → S b ∧ w'.heap[b]? = w.heap[b]? := fun b hb => ⟨hb, hw b fun e => hS (e ▸ hb)⟩
 refine ⟨⟨?_, ?_, h.sup, h.sub, ?_, h.hi, ?_, h.own, h.dis, h.b0, h.nbz, h.ole⟩, hS'⟩
 ·refine h.fr.trans (fun b hb hx => hw b fun e => ?_) e1 e2 e3 (by omega) e5
  subst e
  rcases hg3 with ho | ho
  ·omega
  ·exact hx ho
 ·intro b hb; rw [hsz]; exact h.sb b hb
 ·intro b o hbo
  obtain ⟨h1, h2⟩ := h.glob b o hbo
  exact ⟨h1, (hS' b h1).2.trans h2⟩
 ·intro k hk
  exact (h.ok k hk).mono hS' (zG.refl _) fun g' hg' => hw g' fun e => hρ k (e ▸ hg')
theorem Mem.drewn (h : Mem E nb bl S ρ w) {w' : World} (hh : w'.heap = w.heap) (e1 : w'.os = w.os) (e2 : w'.tape = w.tape) (e3 : w'.output = w.output) (e5 : dn w ≤ dn w') :
  Mem E nb bl S ρ w' ∧ ∀ b, S b → S b ∧ w'.heap[b]? = w.heap[b]? := by
 have hS' : ∀ b, S b → S b ∧ w'.heap[b]? = w.heap[b]? := fun b hb => ⟨hb, by rw [hh]⟩
 refine ⟨⟨?_, ?_, h.sup, h.sub, ?_, h.hi, ?_, h.own, h.dis, h.b0, h.nbz, h.ole⟩, hS'⟩
 ·exact h.fr.trans (fun b hb hx => by rw [hh]) e1 e2 e3 (by rw [hh]; exact Nat.le_refl _) e5
 ·intro b hb; rw [hh]; exact h.sb b hb
 ·intro b o hbo
  obtain ⟨h1, h2⟩ := h.glob b o hbo
  exact ⟨h1, (hS' b h1).2.trans h2⟩
 ·intro k hk
  exact (h.ok k hk).mono hS' (zG.refl _) fun g' hg' => by rw [hh]
end
def Ft (nb : Nat) (bl : Nat → OB) (xs : List AV) (k : Nat → (Nat → OB) → AV → Prop) : Prop :=
 match xs with
 | [.np b 0] =>
  match bl b with
  | .box t n cs =>
   zZ (Nat.beq t 174 && Nat.beq n 2 && Nat.blt b nb)
    (match cs 0 with
    | .v (.pointer none) => k nb (upd bl b (.box 174 2 (zw [.np b 0, cs 1]))) (.tup 0 fun _ => .junk)
    | .np b' 0 => zZ (Nat.beq b' b) (k nb bl (.tup 0 fun _ => .junk)) False
    | _ => Ze b) False
  | _ => Ze b
 | _ => Ze xs
theorem J8 (G : List (Nat × Obj)) : UW Tryz.prog G 201 Ft := by
 refine ⟨enters_of Tryz.func201 (by kernel_rfl) rfl, ?_, ?_⟩
 ·intro nb bl xs k k' hk h
  unfold Ft at h ⊢
  split at h
  ·split at h
   ·rw [zY] at h ⊢
    refine ⟨fun hc => ?_, fun hc => (h.2 hc).elim⟩
    replace h := h.1 hc
    split at h
    ·exact hk _ _ _ h
    ·rw [zY] at h ⊢
     exact ⟨fun hb => hk _ _ _ (h.1 hb), fun hb => (h.2 hb).elim⟩
    ·exact h
   ·exact h
  ·exact h
 ·intro E nb bl S ρ w xs vs k _ hM hx h
  unfold Ft at h
  split at h
  ·rename_i b
   split at h
   ·rename_i t n cs hB
    rw [zY] at h
    cases hc : Nat.beq t 174 && Nat.beq n 2 && Nat.blt b nb with
    | false => exact (h.2 hc).elim
    | true =>
    replace h := h.1 hc
    simp only [Bool.and_eq_true] at hc
    obtain rfl := Nat.eq_of_beq_eq_true hc.1.1
    obtain rfl := Nat.eq_of_beq_eq_true hc.1.2
    have hlt : b < nb := Nat.le_of_ble_eq_true hc.2
    match vs, hx with
    | [v], ⟨hv, _⟩ =>
    cases hv with
    | dnp hd hsh => exact (hM.box (by rw [hB]; rfl) hd).elim
    | np g hk =>
    have hbk := (hM.at b).resolve_left (by rw [hk]; simp)
    rw [hB, hk] at hbk
    obtain ⟨⟨l⟩, c1, c2, c3⟩ := hbk
    match l, c2 with
    | [x, y], _ =>
    have r0 := (c3 0 (by omega)).1
    have e0 : w.cell? ⟨g, 0, none⟩ = some x := by rw [Lib.cell_of_heap c1]; rfl
    have hr : zE w S ρ (.np b 0) (.pointer (some ⟨g, 0, none⟩)) := .np g hk
    split at h
    ·rename_i hcs
     rw [hcs] at r0
     have ex : x = .pointer none := by
      have : (⟨[x, y]⟩ : Array Value).getD 0 undef = x := rfl
      rw [this] at r0
      cases r0; rfl
     subst ex
     refine (Mc g w e0 (by simp [World.shape?, c1]) (by simp [World.frozen?, c1])).mono ?_
     rintro e w' ⟨rfl, rfl⟩
     have hh : (w.setCell ⟨g, 0, none⟩ (.pointer (some ⟨g, 0, none⟩))).heap[g]? = some (.cells #[.pointer (some ⟨g, 0, none⟩), y] 174 (0, 0)) := by
      simp [World.setCell, Array.getElem?_modify, c1]
     have hw : ∀ b, b ≠ g → (w.setCell ⟨g, 0, none⟩ (.pointer (some ⟨g, 0, none⟩))).heap[b]? = w.heap[b]? := fun b hb => by
      simp [World.setCell, Array.getElem?_modify, Ne.symm hb]
     have hS : ∀ b, S b → S b ∧ (w.setCell ⟨g, 0, none⟩ (.pointer (some ⟨g, 0, none⟩))).heap[b]? = w.heap[b]? := fun b' hb' => ⟨hb', hw b' fun e' => (hM.own b g (by rw [hk]; rfl)).1 (e' ▸ hb')⟩
     obtain ⟨m1, m2⟩ := hM.write (k := b) (g := g) (B := .box 174 2 (zw [.np b 0, cs 1])) hlt (by rw [hk]; rfl) hw (by simp [World.setCell]) rfl rfl rfl (Nat.le_refl _) (by
      rw [hk]
      refine ⟨_, hh, rfl, fun i hi => ?_⟩
      match i, hi with
      | 0, _ => exact ⟨.np g hk, rfl⟩
      | 1, _ => exact ⟨((c3 1 (by omega)).1).mono hS (zG.refl _), (c3 1 (by omega)).2⟩)
     exact ⟨_, _, S, ρ, _, _, rfl, h, m1, m2, zG.refl _, .tup #[] rfl fun i hi => absurd hi (Nat.not_lt_zero _)⟩
    ·rename_i b' hcs
     rw [zY] at h
     cases hb : Nat.beq b' b with
     | false => exact (h.2 hb).elim
     | true =>
     replace h := h.1 hb
     obtain rfl := Nat.eq_of_beq_eq_true hb
     rw [hcs] at r0
     have ex : x = .pointer (some ⟨g, 0, none⟩) := by
      have : (⟨[x, y]⟩ : Array Value).getD 0 undef = x := rfl
      rw [this] at r0
      cases r0 with
      | np g' hk' => rw [hk] at hk'; cases hk'; rfl
      | dnp hd => exact (hM.box (by rw [hB]; rfl) hd).elim
     subst ex
     refine (kA g w e0).mono ?_
     rintro e w' ⟨rfl, rfl⟩
     exact ⟨_, _, S, ρ, _, _, rfl, h, hM, fun b hb => ⟨hb, rfl⟩, zG.refl _, .tup #[] rfl fun i hi => absurd hi (Nat.not_lt_zero _)⟩
    ·exact h.elim
   ·exact h.elim
  ·exact h.elim
def jN (nb : Nat) (bl : Nat → OB) (xs : List AV) (k : Nat → (Nat → OB) → AV → Prop) : Prop :=
 match xs with
 | [.np b 0] =>
  match bl b with
  | .box t n cs =>
   zZ (Nat.beq t 174 && Nat.beq n 2)
    (match cs 1 with
    | .v (.slice none 0 0) => k nb bl (.str [])
    | .ns j 0 len =>
     match bl j with
     | .arr e sz _ els => zZ (Nat.beq e 5 && Nat.beq sz 1 && Nat.blt j nb) (0 < len ∧ ∃ l : List UInt8, l.length = len ∧ (∀ i, i < len → els i 0 = .v (.int .u8 (l.getD i 0).toNat)) ∧ k nb (upd bl j .dead) (.str l)) False
     | _ => Ze b
    | _ => Ze b) False
  | _ => Ze b
 | _ => Ze xs
theorem kw (G : List (Nat × Obj)) : UW Tryz.prog G 145 jN := by
 refine ⟨enters_of Tryz.func145 (by kernel_rfl) rfl, ?_, ?_⟩
 ·intro nb bl xs k k' hk h
  unfold jN at h ⊢
  split at h
  ·split at h
   ·rw [zY] at h ⊢
    refine ⟨fun hc => ?_, fun hc => (h.2 hc).elim⟩
    replace h := h.1 hc
    split at h
    ·exact hk _ _ _ h
    ·split at h
     ·rw [zY] at h ⊢
      refine ⟨fun hb => ?_, fun hb => (h.2 hb).elim⟩
      obtain ⟨h1, l, h2, h3, h4⟩ := h.1 hb
      exact ⟨h1, l, h2, h3, hk _ _ _ h4⟩
     ·exact h
    ·exact h
   ·exact h
  ·exact h
 ·intro E nb bl S ρ w xs vs k _ hM hx h
  unfold jN at h
  split at h
  ·rename_i b
   split at h
   ·rename_i t n cs hB
    rw [zY] at h
    cases hc : Nat.beq t 174 && Nat.beq n 2 with
    | false => exact (h.2 hc).elim
    | true =>
    replace h := h.1 hc
    simp only [Bool.and_eq_true] at hc
    obtain rfl := Nat.eq_of_beq_eq_true hc.1
    obtain rfl := Nat.eq_of_beq_eq_true hc.2
    match vs, hx with
    | [v], ⟨hv, _⟩ =>
    cases hv with
    | dnp hd hsh => exact (hM.box (by rw [hB]; rfl) hd).elim
    | np g hk =>
    have hbk := (hM.at b).resolve_left (by rw [hk]; simp)
    rw [hB, hk] at hbk
    obtain ⟨⟨l⟩, c1, c2, c3⟩ := hbk
    match l, c2 with
    | [x, y], _ =>
    have r1 := (c3 1 (by omega)).1
    have ey : (⟨[x, y]⟩ : Array Value).getD 1 undef = y := rfl
    rw [ey] at r1
    split at h
    ·rename_i hcs
     rw [hcs] at r1
     obtain rfl := ZS r1
     refine (Js Tryz.lays169 Tryz.Builder_Extra_169 g x w c1).mono ?_
     rintro e w' ⟨rfl, rfl⟩
     obtain ⟨m1, m2⟩ := Mem.drewn hM (w' := w.drew) rfl rfl rfl rfl (Sz w 1)
     exact ⟨_, _, S, ρ, _, _, rfl, h, m1, m2, zG.refl _, .str []⟩
    ·rename_i j len hcs
     split at h
     ·rename_i el sz L els hA
      rw [zY] at h
      cases hb : Nat.beq el 5 && Nat.beq sz 1 && Nat.blt j nb with
      | false => exact (h.2 hb).elim
      | true =>
      obtain ⟨h1, l, h2, h3, h4⟩ := h.1 hb
      simp only [Bool.and_eq_true] at hb
      obtain rfl := Nat.eq_of_beq_eq_true hb.1.1
      obtain rfl := Nat.eq_of_beq_eq_true hb.1.2
      have hj : j < nb := Nat.le_of_ble_eq_true hb.2
      rw [hcs] at r1
      cases r1 with
      | dns hd hsh => exact (hM.arr (by rw [hA]; rfl) hd).elim
      | ns0 => exact absurd h1 (Nat.lt_irrefl _)
      | nsn => exact absurd h1 (Nat.lt_irrefl _)
      | ns g' base cap sz' L' hk' hl hcap =>
       subst h2
       have hb0 := hM.b0 _ _ _ _ _ _ hk'
       subst hb0
       have hbj := (hM.at j).resolve_left (by rw [hk']; simp)
       rw [hA, hk'] at hbj
       obtain ⟨e1, e2, q1, q2, c, q3, q4, q5⟩ := hbj
       subst e1; subst e2
       simp only [Nat.zero_add] at q4 q5 hl
       have hl0 : l ≠ [] := fun e => by rw [e] at h1; exact absurd h1 (Nat.lt_irrefl _)
       have hcell : ∀ (i : Nat) (z : UInt8), l[i]? = some z → c[i]? = some (Value.int .u8 z.toNat) := fun i z hz => by
        have hi : i < l.length := (List.getElem?_eq_some_iff.1 hz).1
        have r := (q5 i 0 (by omega) (by omega)).1
        rw [h3 i hi] at r
        have e3 := ZS r
        rw [Nat.mul_one, Nat.add_zero, List.getD_eq_getElem?_getD, hz, Option.getD_some] at e3
        have hlt : i < c.size := by omega
        rw [Array.getD_eq_getD_getElem?, Array.getElem?_eq_getElem hlt, Option.getD_some] at e3
        rw [Array.getElem?_eq_getElem hlt, e3]
       have hrun := kW Tryz.lays169 Tryz.Builder_Extra_169 g g' cap x c l w hl0 (by have := c1; simp only [Nat.zero_add, Nat.zero_mul, Nat.sub_zero] at this; exact this) q3 (by omega) q2 (by omega) hcell
       refine hrun.mono ?_
       rintro e w' ⟨rfl, rfl⟩
       obtain ⟨k1, k2, k3⟩ := hM.kill j hj false
       have k1' : Mem E nb (upd bl j .dead) S (upd ρ j .dead) w := by
        have : (fun b => S b ∨ (false = true ∧ (ρ j).has b)) = S := by funext b; simp
        rw [this] at k1; exact k1
       obtain ⟨o1, o2⟩ := hM.own j g' (by rw [hk']; rfl)
       obtain ⟨m1, m2⟩ := Mem.off k1' (w' := w.drew.freeze ⟨g', 0, none⟩ l.length) g' (fun b hb => by
         unfold World.freeze
         split
         ·rfl
         ·show (w.heap.modify g' _)[b]? = w.heap[b]?
          simp [Array.getElem?_modify, Ne.symm hb]) (by
         unfold World.freeze
         split
         ·rfl
         ·show (w.heap.modify g' _).size = w.heap.size
          simp) (by unfold World.freeze; split <;> rfl) (by unfold World.freeze; split <;> rfl) (by unfold World.freeze; split <;> rfl) (by unfold World.freeze; split <;> exact Sz w 1)
         o1 (fun i hi => by
          by_cases e : i = j
          ·subst e; rw [upd_same] at hi; exact hi.elim
          ·rw [zk _ _ e] at hi; exact e (hM.dis i j g' hi (by rw [hk']; rfl))) o2
       exact ⟨_, _, S, _, _, _, rfl, h4, m1, m2, k2, .str l⟩
     ·exact h.elim
    ·exact h.elim
   ·exact h.elim
  ·exact h.elim
end Go.Te
