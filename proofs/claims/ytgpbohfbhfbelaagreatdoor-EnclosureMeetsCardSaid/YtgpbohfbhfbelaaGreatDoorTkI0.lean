/- What the walks of integer in general lean on. -/
import Derived.Test.YtgpbohfbhfbelaaGreatDoorTkF
import Derived.Test.YtgpbohfbhfbelaaGreatDoorArA
import Derived.Test.YtgpbohfbhfbelaaGreatDoorArN
import Derived.Shelf.Strings.Builder1
import Derived.Test.YtgpbohfbhfbelaaGreatDoorProg
import Derived.Test.YtgpbohfbhfbelaaGreatDoorTkS
import Derived.Test.YtgpbohfbhfbelaaGreatDoorSxU
set_option linter.unusedSimpArgs false
set_option linter.unusedVariables false
namespace Go.Te
open Go Go.Sx Go.Proofs Go.Ar Go.Lib
set_option maxRecDepth 100000
def WZ (l : List Int) : OB := .arr 3 1 l.length fun i _ => .i (l.getD i 0)
theorem Uv (l : List Int) (v : Int) (i j : Nat) (hi : i < l.length + 1) (_ : j < 1) : zB (if i < l.length then AV.v (Value.int IntKind.i64 (l.getD i 0)) else AV.v (Value.int IntKind.i64 v)) (AV.v (Value.int IntKind.i64 ((l ++ [v]).getD i 0))) := by
 refine ZA ?_
 split
 ·rename_i h
  rw [List.getD_eq_getElem?_getD, List.getD_eq_getElem?_getD, List.getElem?_append_left h]
 ·obtain rfl : i = l.length := by omega
  rw [List.getD_eq_getElem?_getD (l := l ++ [v]), List.getElem?_append_right (Nat.le_refl _), Nat.sub_self]; rfl
theorem Up (l : List Int) (k : Nat) (v : Int) (hk : k < l.length) (i j : Nat) (hj : j < 1) : zB (if i = k ∧ j < 1 then AV.v (Value.int IntKind.i64 v) else AV.v (Value.int IntKind.i64 (l.getD i 0))) (AV.v (Value.int IntKind.i64 ((l.set k v).getD i 0))) := by
 refine ZA ?_
 rw [yB l i k v hk]
 by_cases e : i = k
 ·rw [if_pos ⟨e, hj⟩, if_pos e]
 ·rw [if_neg fun h => e h.1, if_neg e]
theorem w5 (n i j : Nat) (hj : j < 1) : zB (ZD (Value.int IntKind.i64 0) j) (AV.v (Value.int IntKind.i64 ((List.replicate n (0 : Int)).getD i 0))) := by
 obtain rfl : j = 0 := by omega
 rw [VI]; exact ZA rfl
structure Zz where
 out : List Int
 c : Int
structure Zk where
 i : Nat
 out : List Int
structure ZO where
 k : Nat
 c : Int
 out : List Int
theorem _root_.Go.Ar.MulK.fin {b : Int} {x y : List Int} {z k : Nat} {out : List Int} {c : Int} (h : MulK b x y z k out c) (hk : y.length ≤ k) (hk2 : k ≤ y.length + 1) (hc : c = 0) : XK b x y (z + 1) out := by
 subst hc
 refine ⟨h.len, h.in_, fun i hi => h.zero i (by omega) (by omega), ?_⟩
 have hv := h.val
 rw [Int.mul_zero, Int.add_zero, Yd (x := y) hk] at hv
 rw [hv, Zq b x, Int.add_mul, Int.mul_assoc]
theorem lj (b g : Int) : zX b [g] = g := by simp [zX]
structure Big where
 neg : Bool
 l : List Int
instance : zi Big := ⟨2, ⟨false, []⟩, fun c => zt [.b c.neg, ZF c.l], fun cs => ⟨AV.bool (cs 0), So (cs 1)⟩, fun cs => isBool (cs 0) && Zy Int (cs 1), fun cs h j hj => by
 simp only [Bool.and_eq_true] at h
 match j, hj with
 | 0, _ => exact ZA (sn h.1)
 | 1, _ => exact za h.2⟩
def IG (l : zL) : OB := .arr 5 1 l.length fun i _ => .v (.int .u8 ((l.getD i 0).toNat : Int))
instance : xD Big := ⟨fun c => by cases c; simp [zi.enc, zi.dec, zt, RR, AV.bool], fun c => by cases c; simp [zi.enc, zi.ok, zt, TZ, isBool]⟩
theorem Ym (f : Bool) (l : List Int) : Zi (AV.agg 2 (zt [AV.v (Value.bool f), AV.xl false 1 l.length fun i j => AV.v (Value.int IntKind.i64 (l.getD i 0))])) = (⟨f, l⟩ : Big) := Ow (⟨f, l⟩ : Big)
theorem yE (f : Bool) (l : List Int) : yZ Big (AV.agg 2 (zt [AV.v (Value.bool f), AV.xl false 1 l.length fun i j => AV.v (Value.int IntKind.i64 (l.getD i 0))])) = true := qB (⟨f, l⟩ : Big)
def FD (l : zL) : AV → Bool
 | .str s => s == l
 | _ => false
theorem kA {l : zL} (x : AV) (h : FD l x = true) : zB x (.str l) := by
 unfold FD at h
 split at h
 ·rw [eq_of_beq h]; exact zr _
 ·cases h
end Go.Te

namespace Go.Te
open Go Go.Sx Go.Proofs Go.Ar Go.Lib
set_option maxRecDepth 100000
set_option maxHeartbeats 4000000
theorem Xw {p : Nat → Prop} : vD p 0 := trivial
theorem YL {l : List Int} {z i : Nat} (h : i < z) : (l.take z).getD i 0 = l.getD i 0 := by
 rw [List.getD_eq_getElem?_getD, List.getElem?_take, if_pos h, ← List.getD_eq_getElem?_getD]
def L3 (l : List Int) : Z9 :=
 .two .auto (.two (.one (.loop Nat (fun σ z => [(0, ZF (l.take z))]) (fun σ z => []) 0 (fun σ z => z ≤ l.length ∧ ∀ i, z ≤ i → l.getD i 0 = 0) (fun σ z => z) .auto)) .auto)
def vV : List AV → Option (List zn × AV)
 | [x_l] => some ([.b (Zy Int x_l)], ZF (zO (zW x_l)))
 | _ => none
theorem L6 (l : List Int) :
 ZY [xI l] → (∃ (z : Nat), ((z ≤ lN l ∧ ∀ (i : Nat), z ≤ i → gD l i iZ = iZ) ∧ (false = true → false = true) ∧ 1 = 1 ∧ lN (List.take z l) = lN l ∧ ∀ (i j : Nat), i < lN l → j < 1 → kI ∧ gD l i zi.dflt = gD (List.take z l) i zi.dflt) ∧ True) ∧ ∀ (z : Nat), let q2 := (zH iZ (lZ (List.take z l))); let q1 := (!zS true q2 || zS true q2); let q4 := ((lZ (List.take z l)) - iO);
 let q3 := (Y1 .i64 q4); (z ≤ lN l ∧ ∀ (i : Nat), z ≤ i → gD l i iZ = iZ) → bF q1 (bF q1 (bF (!zS true q2 || DB.db q3) (bF q1 (bF q1 (bF (!zS true q2 || DB.db (iZ ≤ (lZ (List.take z l)) - iO ∧ (lZ (List.take z l)) - iO < (lZ (List.take z l)))) (bF q1 (bF q1 (bF (!zH iZ (lZ (List.take z l)) || zS true q2) (zY (bif zH iZ (lZ (List.take z l)) then gD (List.take z l) (Int.toNat q4) zi.dflt
 == iZ else false) (bF (DB.db q3) (bF (DB.db (iZ ≤ (lZ (List.take z l)) - iO ∧ (lZ (List.take z l)) - iO ≤ (lZ (List.take z l)))) (∃ (z' : Nat), (((z' ≤ lN l ∧ ∀ (i : Nat), z' ≤ i → gD l i iZ = iZ) ∧ z' < z) ∧ (false = true → false = true) ∧ 1 = 1 ∧ lN (List.take z' l) = Int.toNat q4 ∧ ∀ (i j : Nat), i < Int.toNat q4 → j < 1 → kI ∧ gD (List.take z l) i zi.dflt = gD (List.take z' l) i zi.dflt) ∧ True))) ((false = true → false
 = true) ∧ 1 = 1 ∧ lN (zO l) = lN (List.take z l) ∧ ∀ (i j : Nat), i < lN (List.take z l) → j < 1 → kI ∧ gD (List.take z l) i zi.dflt = gD (zO l) i zi.dflt)))))))))) := by
 delta bF xI kI lZ lN gD iZ iO
 dsimp only
 intro hb
 have e0 : (zi.dflt : Int) = 0 := rfl
 simp only [↓ZE, ↓ZR, row_one]
 simp only [sS, dS, e0, Za, VB]
 have hb1 : l.length ≤ 9223372036854775807 := hb.1
 have lt : ∀ z, z ≤ l.length → (l.take z).length = z := fun z h => by rw [List.length_take]; omega
 refine ⟨⟨l.length, ⟨Nat.le_refl _, fun i hi => X1 hi⟩, fun h => h, lt _ (Nat.le_refl _), fun i j hi _ => (YL hi).symm⟩, fun z ⟨h1, h2⟩ => ?_⟩
 rw [lt z h1]
 refine ⟨fun hp => ?_, fun hp => ?_, zv.2 ⟨fun c => ?_, fun c => ?_⟩⟩
 ·have := (zA _ _).1 hp; exact ⟨by omega, by omega⟩
 ·have := (zA _ _).1 hp; exact ⟨by omega, by omega⟩
 ·rw [Bool.and_eq_true, beq_iff_eq] at c
  have hp := (zA _ _).1 c.1
  have c2 := c.2
  rw [YL (by omega)] at c2
  refine ⟨⟨by omega, by omega⟩, ⟨by omega, by omega⟩, z - 1, ⟨⟨by omega, fun i hi => ?_⟩, by omega⟩, fun h => h, lt _ (by omega), fun i j hi _ => by rw [YL (by omega), YL hi]⟩
  by_cases e : i = z - 1
  ·rw [e]; exact c2
  ·exact h2 i (by omega)
 ·have ht := wT h1 h2 (by
   by_cases hz : z = 0
   ·exact .inl hz
   ·refine .inr fun e => ?_
    rw [YL (by omega), e, (zA _ _).2 (by omega)] at c
    cases c)
  rw [ht]
  exact ⟨fun h => h, lt z h1, fun i j hi _ => rfl⟩
theorem Ju (l : List Int) : zT Tryz.prog [] 136 [ZF l] (ZF (zO l)) :=
 zU (T := T0) (an := L3 l) mixed zq (Eq.mp (by kernel_rfl) (L6 l))
theorem Uh : zQ Tryz.prog [] 136 vV := by
 intro xs ps r h hp
 unfold vV at h
 split at h
 ·skip
  rename_i x_l
  cases h
  obtain ⟨q0, -⟩ := Zo hp
  exact weaken (ys := [ZF (zW x_l)]) ⟨za q0, trivial⟩ (Ju (zW x_l))
 ·cases h
def VD : List AV → Option (List zn × AV)
 | [x_l, .v (.int .i64 i)] => some ([.b (Zy Int x_l), .p (0 ≤ i)], .i ((zW x_l).getD i.toNat 0))
 | _ => none
theorem Lf (l : List Int) (i : Int) (h0 : 0 ≤ i) :
 ZY [xI l, aI i] → zY (zH i (lZ l)) (bF (DB.db (iZ ≤ i ∧ i < (lZ l))) (kI ∧ gD l (Int.toNat i) zi.dflt = gD l (Int.toNat i) iZ)) (kI ∧ iZ = gD l (Int.toNat i) iZ) := by
 delta bF xI kI lZ gD iZ aI
 intro hb
 have e0 : (zi.dflt : Int) = 0 := rfl
 simp only [sS, dS, e0, Za]
 exact ⟨fun h => ⟨h0, h⟩, fun h => (X1 (by omega)).symm⟩
theorem Ks (l : List Int) (i : Int) (h0 : 0 ≤ i) : zT Tryz.prog [] 161 [ZF l, .i i] (.i (l.getD i.toNat 0)) :=
 zU (T := T0) (an := .auto) mixed zq (Eq.mp (by kernel_rfl) (Lf l i h0))
theorem Rn : zQ Tryz.prog [] 161 VD := by
 intro xs ps r h hp
 unfold VD at h
 split at h
 ·skip
  rename_i x_l i
  cases h
  obtain ⟨q0, q1, -⟩ := Zo hp
  exact weaken (ys := [ZF (zW x_l), .i i]) ⟨za q0, zr _, trivial⟩ (Ks (zW x_l) i q1)
 ·cases h
def Rs : List AV → Option (List zn × AV)
 | [.v (.int .i64 x), .v (.int .i64 y), .v (.int .i64 c)] => some ([.p (0 ≤ x ∧ x ≤ 999999999), .p (0 ≤ y ∧ y ≤ 999999999), .p (0 ≤ c ∧ c ≤ 999999999)], .tup 2 (zt [.i ((x + y + c).tmod 1000000000), .i ((x + y + c).tdiv 1000000000)]))
 | _ => none
theorem mt (x : Int) (y : Int) (c : Int) (h1 : 0 ≤ x ∧ x ≤ 999999999) (h2 : 0 ≤ y ∧ y ≤ 999999999) (h3 : 0 ≤ c ∧ c ≤ 999999999) :
 ZY [aI x, aI y, aI c] → bF (dK (x + y)) (bF (dK (x + y + c)) (bF (dK (x + y)) (bF (dK (x + y + c)) (bF (dK (Int.tdiv (x + y + c) iB)) (j2 ∧ (True ∧ kI ∧ Int.tmod (x + y + c) iB = Int.tmod (x + y + c) iB) ∧ kI ∧ Int.tdiv (x + y + c) iB = Int.tdiv (x + y + c) iB))))) := by
 delta bF dK kI j2 iB aI
 intro hb
 simp only [sS, dS]
 have hd : 0 ≤ (x + y + c).tdiv 1000000000 ∧ (x + y + c).tdiv 1000000000 ≤ x + y + c := by
  rw [Int.tdiv_eq_ediv_of_nonneg (by omega)]; omega
 exact ⟨⟨by omega, by omega⟩, ⟨by omega, by omega⟩, ⟨by omega, by omega⟩, ⟨by omega, by omega⟩, ⟨by omega, by omega⟩, rfl⟩
theorem Ki (x : Int) (y : Int) (c : Int) (h1 : 0 ≤ x ∧ x ≤ 999999999) (h2 : 0 ≤ y ∧ y ≤ 999999999) (h3 : 0 ≤ c ∧ c ≤ 999999999) : zT Tryz.prog [] 138 [.i x, .i y, .i c] (.tup 2 (zt [.i ((x + y + c).tmod 1000000000), .i ((x + y + c).tdiv 1000000000)])) :=
 zU (T := T0) (an := .auto) mixed zq (Eq.mp (by kernel_rfl) (mt x y c h1 h2 h3))
theorem jM : zQ Tryz.prog [] 138 Rs := by
 intro xs ps r h hp
 unfold Rs at h
 split at h
 ·skip
  rename_i x y c
  cases h
  obtain ⟨q0, q1, q2, -⟩ := Zo hp
  exact weaken (ys := [.i x, .i y, .i c]) ⟨zr _, zr _, zr _, trivial⟩ (Ki x y c q0 q1 q2)
 ·cases h
def tS : List AV → Option (List zn × AV)
 | [.v (.int .i64 x), .v (.int .i64 y), .v (.int .i64 c)] => some ([.p (0 ≤ x ∧ x ≤ 999999999), .p (0 ≤ y ∧ y ≤ 999999999), .p (0 ≤ c ∧ c ≤ 999999999)], .tup 2 (zt [.i (bif zH (x - y - c) 0 then x - y - c + 1000000000 else x - y - c), .i (bif zH (x - y - c) 0 then 1 else 0)]))
 | _ => none
theorem nF (x : Int) (y : Int) (c : Int) (h1 : 0 ≤ x ∧ x ≤ 999999999) (h2 : 0 ≤ y ∧ y ≤ 999999999) (h3 : 0 ≤ c ∧ c ≤ 999999999) :
 ZY [aI x, aI y, aI c] → bF (dK (x - y)) (bF (dK (x - y - c)) (zY (leB iZ (x - y - c)) (j2 ∧ (True ∧ kI ∧ x - y - c = bif zH (x - y - c) iZ then x - y - c + iB else x - y - c) ∧ kI ∧ iZ = bif zH (x - y - c) iZ then iO else iZ) (bF (dK (x - y)) (bF (dK (x - y - c)) (bF (dK (x - y - c + iB)) (2 = List.length
 [AV.junk, AV.junk] ∧ (True ∧ kI ∧ x - y - c + iB = bif zH (x - y - c) iZ then x - y - c + iB else x - y - c) ∧ kI ∧ iO = bif zH (x - y - c) iZ then iO else iZ)))))) := by
 delta bF dK kI j2 iZ iO iB aI
 intro hb
 simp only [sS, dS]
 refine ⟨⟨by omega, by omega⟩, ⟨by omega, by omega⟩, fun h => ?_, fun h => ⟨⟨by omega, by omega⟩, ⟨by omega, by omega⟩, ⟨by omega, by omega⟩, ?_⟩⟩
 ·rw [show zH (x - y - c) 0 = false by rw [Bool.eq_false_iff, Ne, zR]; omega]
  exact ⟨rfl, rfl, rfl⟩
 ·rw [show zH (x - y - c) 0 = true by rw [zR]; omega]
  exact ⟨rfl, rfl, rfl⟩
theorem lO (x : Int) (y : Int) (c : Int) (h1 : 0 ≤ x ∧ x ≤ 999999999) (h2 : 0 ≤ y ∧ y ≤ 999999999) (h3 : 0 ≤ c ∧ c ≤ 999999999) : zT Tryz.prog [] 140 [.i x, .i y, .i c] (.tup 2 (zt [.i (bif zH (x - y - c) 0 then x - y - c + 1000000000 else x - y - c), .i (bif zH (x - y - c) 0 then 1 else 0)])) :=
 zU (T := T0) (an := .auto) mixed zq (Eq.mp (by kernel_rfl) (nF x y c h1 h2 h3))
theorem MI : zQ Tryz.prog [] 140 tS := by
 intro xs ps r h hp
 unfold tS at h
 split at h
 ·skip
  rename_i x y c
  cases h
  obtain ⟨q0, q1, q2, -⟩ := Zo hp
  exact weaken (ys := [.i x, .i y, .i c]) ⟨zr _, zr _, zr _, trivial⟩ (lO x y c q0 q1 q2)
 ·cases h
noncomputable def ff : Tb := (((T0.plus 136 vV).plus 161 VD).plus 138 Rs).plus 140 tS
theorem uo : zZ Tryz.prog ff := zZ.plus (zZ.plus (zZ.plus (zZ.plus zq Uh) Rn) jM) MI
def LQ (x y : List Int) : Z9 :=
 .two .auto (.two .auto (.two .auto (.two (.two .auto (.one (.loop Zz (fun σ z => [(0, σ.tm 0), (1, σ.tm 1), (2, σ.tm 2), (17, σ.tm 17), (7, .ns σ.nb 0 z.out.length), (8, .i z.c), (18, .i (z.out.length : Int))]) (fun σ z => [(σ.nb, WZ z.out)]) 1 (fun σ z => WS 1000000000 x y z.out.length z.out z.c ∧ z.out.length ≤ max x.length y.length + 1) (fun σ z => max x.length y.length + 1 - z.out.length) .auto))) .auto)))
def RS : List AV → Option (List zn × AV)
 | [x_x, x_y, .fn (.func 138) 0 fa_ 0 fc_] => some ([.b (Zy Int x_x), .b (Zy Int x_y), .p (z8 1000000000 (zW x_x)), .p (z8 1000000000 (zW x_y)), .p ((zW x_x).length ≤ 1000000000), .p ((zW x_y).length ≤ 1000000000)], ZF (zw 1000000000 (zX 1000000000 (zW x_x) + zX 1000000000 (zW x_y)).toNat))
 | _ => none
theorem mJ (x : List Int) (y : List Int) (hx : z8 1000000000 x) (hy : z8 1000000000 y) (hlx : x.length ≤ 1000000000) (hly : y.length ≤ 1000000000) :
 let q2 := (if (lZ y) > (lZ x) then (lZ y) else (lZ x)); let q1 := (q2 + iO); let q3 := (xI x); let q4 := (xI y); let q5 := (AV.fn (Fn.func (138 : FuncId)) 0 (fun (x : Nat) => AV.junk) 0 fun (x : Nat) => AV.junk); let q6 := (kI ∧ q2 + iO = q2 + iO); let q7 := (zW q3); let q9 := (zW q4); let q12 := (zw 1000000000
 (Int.toNat (zX iB x + zX iB y))); ZY [xI x, xI y, AV.fn (Fn.func (138 : FuncId)) 0 (fun (x : Nat) => AV.junk) 0 fun (x : Nat) => AV.junk] → bF (dK q1) ((∃ (z : Zz), ((WS iB x y (lN (Zz.out z)) (Zz.out z) (Zz.c z) ∧ lN (Zz.out z) ≤ max (lN x) (lN y) + 1) ∧ zB q3 q3 ∧ zB q4 q4 ∧ zB q5 q5 ∧ q6 ∧ (some (wP Nat) = some
 (wP Nat) ∧ 0 = 0 ∧ lN (Zz.out z) = 0) ∧ (kI ∧ iZ = Zz.c z) ∧ kI ∧ iZ = (lZ (Zz.out z))) ∧ lN (Zz.out z) = 0) ∧ ∀ (z : Zz), let q8 := (Int.toNat (lZ (Zz.out z))); let q10 := (gD q7 q8 iZ + gD q9 q8 iZ + Zz.c z); let q11 := (AV.xl false 1 (lN (Zz.out z)) fun i j => aI (gD (Zz.out z) (0 + i) iZ)); let q13 := (zO (zW q11)); WS iB x y (lN (Zz.out z)) (Zz.out z) (Zz.c z) ∧ List.length
 (Zz.out z) ≤ max (lN x) (lN y) + 1 → zY (zH (lZ (Zz.out z)) q1) (bF (Zy Int q3) (iZ ≤ (lZ (Zz.out z)) ∧ bF (Zy Int q4) (iZ ≤ (lZ (Zz.out z)) ∧ (iZ ≤ gD q7 q8 iZ ∧ gD q7 q8 iZ ≤ (999999999 : Int)) ∧ (iZ ≤ gD q9 q8 iZ ∧ gD q9 q8 iZ ≤ (999999999 : Int)) ∧ (iZ ≤ Zz.c z ∧ Zz.c z ≤ (999999999 : Int)) ∧ bF (DB.db ((lN (Zz.out z) + 1) * 8 ≤ 140737488355328)) (bF (dK ((cI (List.length
 (Zz.out z))) + iO)) (∃ (z' : Zz), (((WS iB x y (lN (Zz.out z')) (Zz.out z') (Zz.c z') ∧ lN (Zz.out z') ≤ max (lN x) (lN y) + 1) ∧ max (lN x) (lN y) + 1 - lN (Zz.out z') < max (lN x) (lN y) + 1 - lN (Zz.out z)) ∧ zB q3 q3 ∧ zB q4 q4 ∧ zB q5 q5 ∧ q6 ∧ (nat_lit 0 = 0 ∧ 0 = 0 ∧ lN (Zz.out z') = lN (Zz.out z) + 1) ∧ (kI ∧ Int.tdiv q10 iB = Zz.c z') ∧ kI ∧ (lZ (Zz.out z)) + iO
 = (lZ (Zz.out z'))) ∧ (3 : TypeId) = 3 ∧ 1 = 1 ∧ lN (Zz.out z') = lN (Zz.out z) + 1 ∧ ∀ (i j : Nat), i < lN (Zz.out z) + 1 → j < 1 → zB (if i < lN (Zz.out z) then aI (gD (Zz.out z) i iZ) else Sx.rowAt [fun (x_1 : Nat) => aI (Int.tmod q10 iB)] (i - lN (Zz.out z)) j) (aI (gD (Zz.out z') i iZ))))))) (bF (Zy Int q11) ((false = true → false = true) ∧ 1 = 1 ∧ lN q12 = lN q13 ∧ ∀ (i j
 : Nat), i < lN q13 → j < 1 → kI ∧ gD q13 i zi.dflt = gD q12 i zi.dflt))) := by
 delta bF dK xI cI kI lZ lN gD iZ iO iB aI
 dsimp only
 intro hb
 have e0 : (zi.dflt : Int) = 0 := rfl
 simp only [↓ZE, ↓ZR, row_one]
 simp only [sS, dS, e0]
 have em : (if (y.length : Int) > (x.length : Int) then (y.length : Int) else (x.length : Int)) = ((max x.length y.length : Nat) : Int) := by split <;> omega
 rw [em]
 have hm : max x.length y.length ≤ 1000000000 := by omega
 have hm1 : x.length ≤ max x.length y.length := by omega
 have hm2 : y.length ≤ max x.length y.length := by omega
 generalize max x.length y.length = m at *
 refine ⟨⟨by omega, by omega⟩, ⟨⟨[], 0⟩, ⟨⟨.zero _ _ _, by simp⟩, rfl, rfl, rfl⟩, rfl⟩, fun z ⟨z1, z2⟩ => ⟨fun hz => ?_, fun hz => ?_⟩⟩
 ·have g1 := hx.get (by omega) z.out.length
  have g2 := hy.get (by omega) z.out.length
  have c0 := z1.c0
  have c1 := z1.c1
  have hs := WS.step (by omega) hx hy z1
  exact ⟨by omega, by omega, ⟨by omega, by omega⟩, ⟨by omega, by omega⟩, ⟨by omega, by omega⟩, by omega, ⟨by omega, by omega⟩, ⟨z.out ++ [(x.getD z.out.length 0 + y.getD z.out.length 0 + z.c).tmod 1000000000], (x.getD z.out.length 0 + y.getD z.out.length 0 + z.c).tdiv 1000000000⟩, ⟨⟨⟨by simp only [List.length_append, List.length_singleton]; exact hs, by simp; omega⟩, by simp; omega⟩, by simp, rfl, by simp⟩, by simp, fun i j => Uv _ _ i j⟩
 ·have he := z1.end_ (b := 1000000000) (by omega) hx hy (by omega) (by omega)
  rw [he]
  exact ⟨fun h => h, rfl, fun _ _ _ _ => rfl⟩
theorem Kv (x : List Int) (y : List Int) (hx : z8 1000000000 x) (hy : z8 1000000000 y) (hlx : x.length ≤ 1000000000) (hly : y.length ≤ 1000000000) : zT Tryz.prog [] 137 [ZF x, ZF y, KY 138] (ZF (zw 1000000000 (zX 1000000000 x + zX 1000000000 y).toNat)) :=
 zU (T := ff) (an := LQ x y) mixed uo (Eq.mp (by kernel_rfl) (mJ x y hx hy hlx hly))
theorem jb : zQ Tryz.prog [] 137 RS := by
 intro xs ps r h hp
 unfold RS at h
 split at h
 ·skip
  rename_i x_x x_y fa_ fc_
  cases h
  obtain ⟨q0, q1, q2, q3, q4, q5, -⟩ := Zo hp
  exact weaken (ys := [ZF (zW x_x), ZF (zW x_y), KY 138]) ⟨za q0, za q1, ⟨rfl, rfl, rfl, Xw, Xw⟩, trivial⟩ (Kv (zW x_x) (zW x_y) q2 q3 q4 q5)
 ·cases h
def md (x y : List Int) : Z9 :=
 .two .auto (.two .auto (.two .auto (.two (.two .auto (.one (.loop Zz (fun σ z => [(0, σ.tm 0), (1, σ.tm 1), (2, σ.tm 2), (17, σ.tm 17), (7, .ns σ.nb 0 z.out.length), (8, .i z.c), (18, .i (z.out.length : Int))]) (fun σ z => [(σ.nb, WZ z.out)]) 1 (fun σ z => wK 1000000000 x y z.out.length z.out z.c ∧ z.out.length ≤ max x.length y.length + 1) (fun σ z => max x.length y.length + 1 - z.out.length) .auto))) .auto)))
def Sf : List AV → Option (List zn × AV)
 | [x_x, x_y, .fn (.func 140) 0 fa_ 0 fc_] => some ([.b (Zy Int x_x), .b (Zy Int x_y), .p (z8 1000000000 (zW x_x)), .p (z8 1000000000 (zW x_y)), .p ((zW x_x).length ≤ 1000000000), .p ((zW x_y).length ≤ 1000000000), .p (zX 1000000000 (zW x_y) ≤ zX 1000000000 (zW x_x))], ZF (zw 1000000000 (zX 1000000000 (zW x_x) - zX 1000000000 (zW x_y)).toNat))
 | _ => none
theorem kY (x : List Int) (y : List Int) (hx : z8 1000000000 x) (hy : z8 1000000000 y) (hlx : x.length ≤ 1000000000) (hly : y.length ≤ 1000000000) (hle : zX 1000000000 y ≤ zX 1000000000 x) :
 let q2 := (if (lZ y) > (lZ x) then (lZ y) else (lZ x)); let q1 := (q2 + iO); let q3 := (xI x); let q4 := (xI y); let q5 := (AV.fn (Fn.func (140 : FuncId)) 0 (fun (x : Nat) => AV.junk) 0 fun (x : Nat) => AV.junk); let q6 := (kI ∧ q2 + iO = q2 + iO); let q7 := (zW q3); let q9 := (zW q4); let q12 := (zw 1000000000
 (Int.toNat (zX iB x - zX iB y))); ZY [xI x, xI y, AV.fn (Fn.func (140 : FuncId)) 0 (fun (x : Nat) => AV.junk) 0 fun (x : Nat) => AV.junk] → bF (dK q1) ((∃ (z : Zz), ((wK iB x y (lN (Zz.out z)) (Zz.out z) (Zz.c z) ∧ lN (Zz.out z) ≤ max (lN x) (lN y) + 1) ∧ zB q3 q3 ∧ zB q4 q4 ∧ zB q5 q5 ∧ q6 ∧ (some (wP Nat) = some
 (wP Nat) ∧ 0 = 0 ∧ lN (Zz.out z) = 0) ∧ (kI ∧ iZ = Zz.c z) ∧ kI ∧ iZ = (lZ (Zz.out z))) ∧ lN (Zz.out z) = 0) ∧ ∀ (z : Zz), let q8 := (Int.toNat (lZ (Zz.out z))); let q10 := (gD q7 q8 iZ - gD q9 q8 iZ - Zz.c z); let q11 := (AV.xl false 1 (lN (Zz.out z)) fun i j => aI (gD (Zz.out z) (0 + i) iZ)); let q13 := (zO (zW q11)); wK iB x y (lN (Zz.out z)) (Zz.out z) (Zz.c z) ∧ List.length
 (Zz.out z) ≤ max (lN x) (lN y) + 1 → zY (zH (lZ (Zz.out z)) q1) (bF (Zy Int q3) (iZ ≤ (lZ (Zz.out z)) ∧ bF (Zy Int q4) (iZ ≤ (lZ (Zz.out z)) ∧ (iZ ≤ gD q7 q8 iZ ∧ gD q7 q8 iZ ≤ (999999999 : Int)) ∧ (iZ ≤ gD q9 q8 iZ ∧ gD q9 q8 iZ ≤ (999999999 : Int)) ∧ (iZ ≤ Zz.c z ∧ Zz.c z ≤ (999999999 : Int)) ∧ bF (DB.db ((lN (Zz.out z) + 1) * 8 ≤ 140737488355328)) (bF (dK ((cI (List.length
 (Zz.out z))) + iO)) (∃ (z' : Zz), (((wK iB x y (lN (Zz.out z')) (Zz.out z') (Zz.c z') ∧ lN (Zz.out z') ≤ max (lN x) (lN y) + 1) ∧ max (lN x) (lN y) + 1 - lN (Zz.out z') < max (lN x) (lN y) + 1 - lN (Zz.out z)) ∧ zB q3 q3 ∧ zB q4 q4 ∧ zB q5 q5 ∧ q6 ∧ (nat_lit 0 = 0 ∧ 0 = 0 ∧ lN (Zz.out z') = lN (Zz.out z) + 1) ∧ (kI ∧ (bif zH q10 iZ then iO else iZ) = Zz.c z') ∧ kI ∧ (lZ (Zz.out
 z)) + iO = (lZ (Zz.out z'))) ∧ (3 : TypeId) = 3 ∧ 1 = 1 ∧ lN (Zz.out z') = lN (Zz.out z) + 1 ∧ ∀ (i j : Nat), i < lN (Zz.out z) + 1 → j < 1 → zB (if i < lN (Zz.out z) then aI (gD (Zz.out z) i iZ) else Sx.rowAt [fun (x_1 : Nat) => aI (bif zH q10 iZ then gD q7 q8 iZ - gD q9 q8 iZ - Zz.c z + iB else gD q7 q8 iZ - gD q9 q8 iZ - Zz.c z)] (i - lN (Zz.out z)) j) (AV.v (Value.int .i64
 (gD (Zz.out z') i iZ)))))))) (bF (Zy Int q11) ((false = true → false = true) ∧ 1 = 1 ∧ lN q12 = lN q13 ∧ ∀ (i j : Nat), i < lN q13 → j < 1 → kI ∧ gD q13 i zi.dflt = gD q12 i zi.dflt))) := by
 delta bF dK xI cI kI lZ lN gD iZ iO iB aI
 dsimp only
 intro hb
 have e0 : (zi.dflt : Int) = 0 := rfl
 simp only [↓ZE, ↓ZR, row_one]
 simp only [sS, dS, e0]
 have em : (if (y.length : Int) > (x.length : Int) then (y.length : Int) else (x.length : Int)) = ((max x.length y.length : Nat) : Int) := by split <;> omega
 rw [em]
 have hm : max x.length y.length ≤ 1000000000 := by omega
 have hm1 : x.length ≤ max x.length y.length := by omega
 have hm2 : y.length ≤ max x.length y.length := by omega
 generalize max x.length y.length = m at *
 refine ⟨⟨by omega, by omega⟩, ⟨⟨[], 0⟩, ⟨⟨.zero _ _ _, by simp⟩, rfl, rfl, rfl⟩, rfl⟩, fun z ⟨z1, z2⟩ => ⟨fun hz => ?_, fun hz => ?_⟩⟩
 ·have g1 := hx.get (by omega) z.out.length
  have g2 := hy.get (by omega) z.out.length
  have c0 := z1.c0
  have c1 := z1.c1
  have hs := wK.step (by omega) hx hy z1
  refine ⟨by omega, by omega, ⟨by omega, by omega⟩, ⟨by omega, by omega⟩, ⟨by omega, by omega⟩, by omega, ⟨by omega, by omega⟩, ?_⟩
  by_cases hn : x.getD z.out.length 0 - y.getD z.out.length 0 - z.c < 0
  ·rw [show zH (x.getD z.out.length 0 - y.getD z.out.length 0 - z.c) 0 = true from (zR _ _).2 hn]
   exact ⟨⟨_, 1⟩, ⟨⟨⟨by simpa using hs.2 hn, by simp; omega⟩, by simp; omega⟩, by simp, rfl, by simp⟩, by simp, fun i j => Uv _ _ i j⟩
  ·rw [show zH (x.getD z.out.length 0 - y.getD z.out.length 0 - z.c) 0 = false by rw [Bool.eq_false_iff, Ne, zR]; exact hn]
   exact ⟨⟨_, 0⟩, ⟨⟨⟨by simpa using hs.1 (by omega), by simp; omega⟩, by simp; omega⟩, by simp, rfl, by simp⟩, by simp, fun i j => Uv _ _ i j⟩
 ·have he := z1.end_ (b := 1000000000) (by omega) (by omega) (by omega) hle
  rw [he]
  exact ⟨fun h => h, rfl, fun _ _ _ _ => rfl⟩
theorem jI (x : List Int) (y : List Int) (hx : z8 1000000000 x) (hy : z8 1000000000 y) (hlx : x.length ≤ 1000000000) (hly : y.length ≤ 1000000000) (hle : zX 1000000000 y ≤ zX 1000000000 x) : zT Tryz.prog [] 137 [ZF x, ZF y, KY 140] (ZF (zw 1000000000 (zX 1000000000 x - zX 1000000000 y).toNat)) :=
 zU (T := ff) (an := md x y) mixed uo (Eq.mp (by kernel_rfl) (kY x y hx hy hlx hly hle))
theorem kM : zQ Tryz.prog [] 137 Sf := by
 intro xs ps r h hp
 unfold Sf at h
 split at h
 ·skip
  rename_i x_x x_y fa_ fc_
  cases h
  obtain ⟨q0, q1, q2, q3, q4, q5, q6, -⟩ := Zo hp
  exact weaken (ys := [ZF (zW x_x), ZF (zW x_y), KY 140]) ⟨za q0, za q1, ⟨rfl, rfl, rfl, Xw, Xw⟩, trivial⟩ (jI (zW x_x) (zW x_y) q2 q3 q4 q5 q6)
 ·cases h
end Go.Te

namespace Go.Te
open Go Go.Sx Go.Proofs Go.Ar
set_option maxRecDepth 100000
set_option maxHeartbeats 4000000
noncomputable def eE : Tb := T0.body Tryz.prog [(191, .auto)]
theorem NZ : zZ Tryz.prog eE := zZ.body mixed zq _
def JX (x y : List Int) : Z9 :=
 .two .auto (.one (.loop Nat (fun σ z => [(0, σ.tm 0), (1, σ.tm 1), (3, .i ((z : Int) - 1))]) (fun _ z => []) 0
  (fun _ z => z ≤ x.length ∧ ∀ i, z ≤ i → i < x.length → x.getD i 0 = y.getD i 0) (fun _ z => z) .auto))
def JU (x y : List Int) : Z9 :=
 .two .auto (.two .auto (.two (.two .auto (.one (.range (JX x y) .auto .auto))) .auto))
def tj : List AV → Option (List zn × AV)
 | [x_x, x_y] => some ([.b (Zy Int x_x), .b (Zy Int x_y), .p (z8 1000000000 (zW x_x)), .p (z8 1000000000 (zW x_y))], .i (cmpL (zW x_x) (zW x_y)))
 | _ => none
theorem jj (x : List Int) (y : List Int) (hx : z8 1000000000 x) (hy : z8 1000000000 y) :
 let q2 := (xI y); let q3 := (xI x); let q1 := (((50 = 50 ∧ 1 = 1 ∧ zB q2 q2) ∧ 3 = 3 ∧ 1 = 1 ∧ kI ∧ iZ = iZ) ∧ 50 = 50 ∧ 1 = 1 ∧ zB q3 q3); ZY [xI x, xI y] → zY ((lZ x) != (lZ y)) (bF (DB.db
 (Y1 .i64 ((lZ x) - (lZ y)))) (kI ∧ (lZ x) - (lZ y) = cmpL x y)) (bF (dK ((lZ x) - iO)) ((∃ (z : Nat), ((z ≤ lN x ∧ ∀ (i : Nat), z ≤ i → i < lN x → gD x i iZ = gD y i iZ) ∧ nat_lit 3 = 3 ∧ (nat_lit 2 = 2 ∧ 0 = 0) ∧ kI ∧ (lZ x) - iO = (cI z) - iO) ∧ q1 ∧ lR) ∧ ∀ (z : Nat), let q4 := (DB.db (iZ ≤ (cI z)
 - iO ∧ (cI z) - iO < (lZ y))); (z ≤ lN x ∧ ∀ (i : Nat), z ≤ i → i < lN x → gD x i iZ = gD y i iZ) → zY (leB iZ ((cI z) - iO)) (bF (DB.db (iZ ≤ (cI z) - iO ∧ (cI z) - iO < (lZ x))) (zY q4 (zY (gD x (Int.toNat ((cI z) - iO)) zi.dflt != gD y (Int.toNat ((cI z) - iO)) zi.dflt) (bF q4 (bF (dK (gD x (Int.toNat ((cI z) - iO)) zi.dflt - gD y (Int.toNat ((↑z :
 Int) - iO)) zi.dflt)) (kI ∧ gD x (Int.toNat ((cI z) - iO)) zi.dflt - gD y (Int.toNat ((cI z) - iO)) zi.dflt = cmpL x y))) (bF (dK ((cI z) - iO - iO)) (∃ (z' : Nat), (((z' ≤ lN x ∧ ∀ (i : Nat), z' ≤ i → i < lN x → gD x i iZ = gD y i iZ) ∧ z' < z) ∧ nat_lit 3 = 3 ∧ (nat_lit 2 = 2 ∧ 0 = 0) ∧ kI ∧ (cI z) - iO - iO = (cI z') - iO) ∧ q1 ∧ lR)))
 False)) (kI ∧ iZ = cmpL x y))) := by
 delta bF dK xI lR cI kI lZ lN gD iZ iO
 dsimp only
 intro hb
 have e0 : (zi.dflt : Int) = 0 := rfl
 simp only [↓ZE, ↓ZR, row_one]
 simp only [sS, dS, e0]
 simp only [VB]
 have hx1 : x.length ≤ 9223372036854775807 := hb.1.1
 have hy1 : y.length ≤ 9223372036854775807 := hb.2.1
 refine ⟨fun hne => ⟨⟨by omega, by omega⟩, ?_⟩, fun heq => ⟨⟨by omega, by omega⟩, ⟨x.length, ⟨Nat.le_refl _, fun i h1 h2 => by omega⟩, rfl⟩, fun z ⟨h1, h2⟩ => ⟨fun hz => ?_, fun hz => ?_⟩⟩⟩
 ·exact (OL (fun e => hne (by omega))).symm
 ·have hd : Ar.cmpL x y = vq x y z := by rw [cmpL_eq (by omega), wt h1 h2]
  have hd2 : vq x y z = bif x.getD (z - 1) 0 != y.getD (z - 1) 0 then x.getD (z - 1) 0 - y.getD (z - 1) 0 else vq x y (z - 1) := by
   conv => lhs; rw [show z = z - 1 + 1 by omega]
   rfl
  have g1 := hx.get (by omega) (z - 1)
  have g2 := hy.get (by omega) (z - 1)
  refine ⟨⟨by omega, by omega⟩, ⟨by omega, by omega⟩, fun h => ⟨⟨by omega, by omega⟩, ⟨by omega, by omega⟩, ?_⟩, fun h => ⟨⟨by omega, by omega⟩, z - 1, ⟨⟨by omega, fun i h4 h5 => ?_⟩, by omega⟩, by omega⟩⟩
  ·rw [hd, hd2, bne_iff_ne.2 h]; rfl
  ·by_cases e : i = z - 1
   ·rw [e]; exact h
   ·exact h2 i (by omega) h5
 ·rw [cmpL_eq (by omega), wt h1 h2, show z = 0 by omega]; rfl
theorem Hv (x : List Int) (y : List Int) (hx : z8 1000000000 x) (hy : z8 1000000000 y) : zT Tryz.prog [] 139 [ZF x, ZF y] (.i (cmpL x y)) :=
 zU (T := eE) (an := JU x y) mixed NZ (Eq.mp (by kernel_rfl) (jj x y hx hy))
theorem Qe : zQ Tryz.prog [] 139 tj := by
 intro xs ps r h hp
 unfold tj at h
 split at h
 ·skip
  rename_i x_x x_y
  cases h
  obtain ⟨q0, q1, q2, q3, -⟩ := Zo hp
  exact weaken (ys := [ZF (zW x_x), ZF (zW x_y)]) ⟨za q0, za q1, trivial⟩ (Hv (zW x_x) (zW x_y) q2 q3)
 ·cases h
def Sp (x y : List Int) : Z9 :=
 .two .auto (.two .auto (.two (.two .auto (.one (.loop Zk (fun σ z => [(1, σ.tm 1), (5, σ.tm 5), (18, σ.tm 18), (19, σ.tm 19), (20, .i (z.i : Int))]) (fun σ z => [(yd (σ.tm 5), WZ z.out)]) 0 (fun σ z => XK 1000000000 x y z.i z.out ∧ z.i ≤ x.length) (fun σ z => x.length - z.i) (.two .auto (.two .auto (.two (.one (.two .auto (.two .auto (.two .auto (.one (.loop ZO (fun σ z => [(1, σ.tm 1), (5, σ.tm 5), (6, σ.tm 6), (7, σ.tm 7), (18, σ.tm 18), (19, σ.tm 19), (20, σ.tm 20), (27, σ.tm 27), (8, .i z.c), (28, .i (z.k : Int))]) (fun σ z => [(yd (σ.tm 5), WZ z.out)]) 0 (fun σ z => MulK 1000000000 x y (AV.int (σ.tm 6)).toNat z.k z.out z.c ∧ z.k ≤ y.length + 1 ∧ (z.k = y.length + 1 → z.c = 0)) (fun σ z => y.length + 1 - z.k) .auto)))))) .auto)))))) .auto))
def tZ : List AV → Option (List zn × AV)
 | [x_x, x_y] => some ([.b (Zy Int x_x), .b (Zy Int x_y), .p (z8 1000000000 (zW x_x)), .p (z8 1000000000 (zW x_y)), .p ((zW x_x).length ≤ 1000000000), .p ((zW x_y).length ≤ 1000000000)], ZF (zw 1000000000 (zX 1000000000 (zW x_x) * zX 1000000000 (zW x_y)).toNat))
 | _ => none
theorem ni (x : List Int) (y : List Int) (hx : z8 1000000000 x) (hy : z8 1000000000 y) (hlx : x.length ≤ 1000000000) (hly : y.length ≤ 1000000000) :
 let q1 := ((lZ x) + (lZ y) + iO); let q2 := (xI y); let q3 := (nat_lit 0 = 0 ∧ 0 = 0 ∧ Int.toNat q1 = Int.toNat q1); let q4 := (xI x); let q5 := (kI ∧ (lZ x) = (lZ x)); let q9 := (kI ∧ (lZ y) + iO = (lZ y) + iO); let q13 := (Int.toNat q1); let q14 := (zW q2); let q18 :=
 (zw 1000000000 (Int.toNat (zX iB x * zX iB y))); ZY [xI x, xI y] → bF (dK ((lZ x) + (lZ y))) (bF (dK q1) (bF (DB.db (iZ ≤ (lZ x) + (lZ y) + iO ∧ (lZ x) + (lZ y) + iO ≤ (lZ x) + (lZ y) + (1
 : Int) ∧ (↑8 : Int) * q1 ≤ (140737488355328 : Int))) ((∃ (z : Zk), ((XK iB x y (Zk.i z) (Zk.out z) ∧ Zk.i z ≤ lN x) ∧ zB q2 q2 ∧ q3 ∧ zB q4 q4 ∧ q5 ∧ kI ∧ iZ = (cI (Zk.i z))) ∧ (3 : TypeId) = 3 ∧ 1 = 1 ∧ lN (Zk.out z) = Int.toNat q1 ∧ ∀ (i j : Nat), i < Int.toNat q1 → j < 1 → zB (ZD (Value.int .i64 iZ) j) (aI (gD (Zk.out z) i iZ))) ∧ ∀ (z : Zk), let q6 := (Int.toNat (AV.int (aI (cI (Zk.i z))))); let q7 := (kI ∧ (cI (Zk.i z)) = (cI (Zk.i
 z))); let q8 := (kI ∧ gD x (Int.toNat (cI (Zk.i z))) zi.dflt = gD x (Int.toNat (cI (Zk.i z))) zi.dflt); let q17 := (AV.xl false 1 q13 fun i j => aI (gD (Zk.out z) (0 + i) iZ)); let q19 := (zO (zW q17)); XK iB x y (Zk.i z) (Zk.out z) ∧ Zk.i z ≤ lN x → zY (zH (cI (Zk.i z)) (lZ x)) (bF (DB.db (iZ ≤ (cI (Zk.i z)) ∧ (cI (Zk.i z)) < (lZ x))) (bF (dK ((lZ y) + iO)) ((∃ (z_1 :
 ZO), ((MulK iB x y q6 (ZO.k z_1) (ZO.out z_1) (ZO.c z_1) ∧ ZO.k z_1 ≤ lN y + 1 ∧ (ZO.k z_1 = lN y + 1 → ZO.c z_1 = iZ)) ∧ zB q2 q2 ∧ q3 ∧ q7 ∧ q8 ∧ zB q4 q4 ∧ q5 ∧ q7 ∧ q9 ∧ (kI ∧ iZ = ZO.c z_1) ∧ kI ∧ iZ = (cI (ZO.k z_1))) ∧ 3 = 3 ∧ 1 = 1 ∧ lN (ZO.out z_1) = lN (Zk.out z) ∧ ∀ (i j : Nat), i < lN (Zk.out z) → j < 1 → kI ∧ gD (Zk.out z) i iZ = gD (ZO.out z_1) i iZ) ∧ ∀ (z_1 : ZO), let q11 := ((cI (Zk.i z)) +
 (cI (ZO.k z_1))); let q10 := (dK q11); let q12 := (DB.db (iZ ≤ (cI (Zk.i z)) + (cI (ZO.k z_1)) ∧ (cI (Zk.i z)) + (cI (ZO.k z_1)) < (cI q13))); let q15 := (0 + Int.toNat q11); let q16 := (gD (ZO.out z_1) q15 iZ + gD x (Int.toNat (cI (Zk.i z))) zi.dflt * gD q14 (Int.toNat (cI (ZO.k z_1))) iZ + ZO.c z_1); MulK iB x y q6 (ZO.k z_1) (ZO.out z_1) (ZO.c z_1) ∧ ZO.k z_1 ≤ lN y + 1 ∧ (ZO.k z_1 = lN y + 1 → ZO.c z_1 = iZ) → zY (zH (cI (ZO.k z_1))
 ((lZ y) + iO)) (bF q10 (bF q12 (bF (Zy Int q2) (iZ ≤ (cI (ZO.k z_1)) ∧ bF (dK (gD x (Int.toNat (cI (Zk.i z))) zi.dflt * gD q14 (Int.toNat (cI (ZO.k z_1))) iZ)) (bF (dK (gD (ZO.out z_1) q15 iZ + gD x (Int.toNat (cI (Zk.i z))) zi.dflt * gD q14 (Int.toNat (cI (ZO.k z_1))) iZ)) (bF (dK q16) (bF q10 (bF (dK (Int.tdiv q16 iB)) (bF q12 (bF (dK ((↑(ZO.k z_1) :
 Int) + iO)) (∃ (z' : ZO), (((MulK iB x y q6 (ZO.k z') (ZO.out z') (ZO.c z') ∧ ZO.k z' ≤ lN y + 1 ∧ (ZO.k z' = lN y + 1 → ZO.c z' = iZ)) ∧ lN y + 1 - ZO.k z' < lN y + 1 - ZO.k z_1) ∧ zB q2 q2 ∧ q3 ∧ q7 ∧ q8 ∧ zB q4 q4 ∧ q5 ∧ q7 ∧ q9 ∧ (kI ∧ Int.tdiv q16 iB = ZO.c z') ∧ kI ∧ (cI (ZO.k z_1)) + iO = (cI (ZO.k z'))) ∧ 3 = 3 ∧ 1 = 1 ∧ lN (ZO.out z') = lN (ZO.out z_1) ∧ ∀ (i j : Nat), i < lN (ZO.out z_1) → j < 1 → zB (if i = 0 +
 Int.toNat q11 ∧ 0 ≤ j ∧ j < 1 then aI (Int.tmod q16 iB) else aI (gD (ZO.out z_1) i iZ)) (aI (gD (ZO.out z') i iZ))))))))))))) (bF (dK ((cI (Zk.i z)) + iO)) (∃ (z' : Zk), (((XK iB x y (Zk.i z') (Zk.out z') ∧ Zk.i z' ≤ lN x) ∧ lN x - Zk.i z' < lN x - Zk.i z) ∧ zB q2 q2 ∧ q3 ∧ zB q4 q4 ∧ q5 ∧ kI ∧ (cI (Zk.i z)) + iO = (cI (Zk.i
 z'))) ∧ 3 = 3 ∧ 1 = 1 ∧ lN (Zk.out z') = lN (ZO.out z_1) ∧ ∀ (i j : Nat), i < lN (ZO.out z_1) → j < 1 → kI ∧ gD (ZO.out z_1) i iZ = gD (Zk.out z') i iZ))))) (bF (Zy Int q17) ((false = true → false = true) ∧ 1 = 1 ∧ lN q18 = lN q19 ∧ ∀ (i j : Nat), i < lN q19 → j < 1 → kI ∧ gD q19 i zi.dflt = gD q18 i zi.dflt))))) := by
 delta bF dK xI cI kI lZ lN gD iZ iO iB aI
 dsimp only
 intro hb
 have e0 : (zi.dflt : Int) = 0 := rfl
 simp only [↓ZE, ↓ZR, row_one]
 simp only [sS, dS, e0]
 have en : ((x.length : Int) + (y.length : Int) + 1).toNat = x.length + y.length + 1 := by omega
 rw [en]
 refine ⟨⟨by omega, by omega⟩, ⟨by omega, by omega⟩, ⟨by omega, Int.le_refl _, by omega⟩, ⟨⟨0, List.replicate (x.length + y.length + 1) 0⟩, ⟨⟨.zero_ (by omega) _ _, Nat.zero_le _⟩, rfl⟩, by simp, fun i j _ hj => w5 _ i j hj⟩, fun z ⟨z1, z2⟩ => ⟨fun hz => ⟨⟨by omega, hz⟩, ⟨by omega, by omega⟩, ⟨⟨0, 0, z.out⟩, ⟨⟨z1.start (by omega), Nat.zero_le _, fun h => rfl⟩, rfl, rfl⟩, rfl, fun _ _ _ _ => rfl⟩, fun w ⟨w1, w2, w3⟩ => ⟨fun hk0 => ?_, fun hk0 => ?_⟩⟩, fun hz => ?_⟩⟩
 ·have hz' : z.i < x.length := by omega
  have w4 := w1.len
  have hk : w.k ≤ y.length := by omega
  have ek : ((z.i : Int) + (w.k : Int)).toNat = z.i + w.k := by omega
  rw [ek]
  obtain ⟨⟨n0, n1⟩, hs⟩ := w1.step (by omega) hx hy hz' hk
  have g1 := hx.get (by omega) z.i
  have g2 := hy.get (by omega) w.k
  have g3 := w1.in_.get (by omega) (z.i + w.k)
  have c0 := w1.c0
  have c1 := w1.c1
  have p0 : 0 ≤ x.getD z.i 0 * y.getD w.k 0 := Int.mul_nonneg g1.1 g2.1
  have d0 := hs.c0
  have d1 := hs.c1
  refine ⟨⟨by omega, by omega⟩, ⟨by omega, by omega⟩, by omega, ⟨by omega, by omega⟩, ⟨by omega, by omega⟩, ⟨by omega, by omega⟩, ⟨by omega, by omega⟩, ⟨by omega, by omega⟩, ⟨by omega, by omega⟩, ⟨by omega, by omega⟩, ⟨w.k + 1, _, _⟩, ⟨⟨⟨hs, by simp only; omega, fun h => ?_⟩, by simp only; omega⟩, rfl, rfl⟩, by simp, fun i j _ => Up _ _ _ (by omega) i j⟩
  have hk' : w.k = y.length := by simp only at h; omega
  have := (hk' ▸ w1 : MulK 1000000000 x y z.i y.length w.out w.c).last (by omega)
  rw [← hk'] at this
  exact this
 ·have c0 := w1.c0
  have hc := w3 (by omega)
  exact ⟨⟨by omega, by omega⟩, ⟨z.i + 1, w.out⟩, ⟨⟨⟨w1.fin (by omega) w2 hc, by simp only; omega⟩, by simp only; omega⟩, rfl⟩, rfl, fun _ _ _ _ => rfl⟩
 ·have hz' : z.i = x.length := by omega
  have he := (hz' ▸ z1 : XK 1000000000 x y x.length z.out).end_ (b := 1000000000) (by omega)
  rw [← z1.len]
  simp only [sS, dS, e0]
  rw [he]
  exact ⟨fun h => h, rfl, fun _ _ _ _ => rfl⟩
theorem N4 (x : List Int) (y : List Int) (hx : z8 1000000000 x) (hy : z8 1000000000 y) (hlx : x.length ≤ 1000000000) (hly : y.length ≤ 1000000000) : zT Tryz.prog [] 101 [ZF x, ZF y] (ZF (zw 1000000000 (zX 1000000000 x * zX 1000000000 y).toNat)) :=
 zU (T := ff) (an := Sp x y) mixed uo (Eq.mp (by kernel_rfl) (ni x y hx hy hlx hly))
theorem Mr : zQ Tryz.prog [] 101 tZ := by
 intro xs ps r h hp
 unfold tZ at h
 split at h
 ·skip
  rename_i x_x x_y
  cases h
  obtain ⟨q0, q1, q2, q3, q4, q5, -⟩ := Zo hp
  exact weaken (ys := [ZF (zW x_x), ZF (zW x_y)]) ⟨za q0, za q1, trivial⟩ (N4 (zW x_x) (zW x_y) q2 q3 q4 q5)
 ·cases h
end Go.Te

namespace Go.Te
open Go Go.Sx Go.Proofs Go.Ar
set_option maxRecDepth 100000
set_option maxHeartbeats 4000000
theorem M1 {a : zL} (h : zC a = true) : z6 (zu a) = true ∧ (zV a).natAbs = zm (zu a) := by
 rcases yQ h with ⟨r, rfl, h1, _, h3⟩ | ⟨h1, h3⟩
 ·exact ⟨h1, by rw [h3]; show _ = zm r; omega⟩
 ·have hm : zG a = false := by
   unfold zG
   rw [beq_eq_false_iff_ne]
   intro e
   have h0 := (Zx.1 h1).1
   have := (Zx.1 h1).2.1 _ (We (s := a) (i := 0) h0)
   rw [e] at this
   cases this
  rw [← RU hm]
  exact ⟨h1, by rw [h3]; omega⟩
structure yC where
 z : Nat
 u : Int
 L : List Int
noncomputable def eO : Tb := ((T0.plus 129 (YF fun s => .tup 2 (zt [.str (zu s), .b (zG s)]))).plus 136 vV).body Tryz.prog [(135, .auto)]
theorem Nf : zZ Tryz.prog eO := zZ.body mixed (zZ.plus (zZ.plus zq pD) Uh) _
def LF (a : zL) : Z9 :=
 .two .auto (.one (.loop yC (fun σ z => [(0, σ.tm 0), (1, σ.tm 1), (5, σ.tm 5), (6, .i z.z)]) (fun _ z => [(1, WZ z.L), (3, .box 3 1 fun _ => .i z.u)]) 0
  (fun _ z => OW 9 (zu a) z.z z.L ∧ (z.z % 9 ≠ 0 → z.u = 10 ^ (z.z % 9)) ∧ 1 ≤ z.u ∧ z.u ≤ 1000000000) (fun _ z => (zu a).length - z.z) .auto))
def mg (a : zL) : Z9 :=
 .two .auto (.two .auto (.two .auto (.two .auto (.two (.two .auto (.one (.range (LF a) .auto .auto))) .auto))))
def UM : List AV → Option (List zn × AV)
 | [.str a] => some ([.p (zC a = true), .p (a.length ≤ 100000000)], .agg 2 (zt [.b (zG a), ZF (zw 1000000000 (zV a).natAbs)]))
 | _ => none
theorem LD (a : List UInt8) (hi : zC a = true) (hl : a.length ≤ 100000000) :
 let q1 := ((lZ (zu a)) + (9 : Int) - iO); let q2 := (Int.tdiv q1 (9 : Int)); let q3 := (kI ∧ (lZ (zu a)) = (lZ (zu a))); let q4 := (114 = 114 ∧ 2 = 2 ∧ false = false ∧ Value.slice (wP Addr) 0 0 = Array.getD (Value.cells (Value.agg #[Value.bool false, Value.slice (wP Addr) 0 0])) (nat_lit 1) undef); let q9 := (Int.toNat q2); let q15 := (zw 1000000000 (Int.natAbs (zV a))); ZY [AV.str a] → bF (dK ((lZ (zu a)) + (9 : Int))) (bF (dK q1) (bF (DB.db
 (Y1 .i64 q2)) (bF (DB.db (iZ ≤ Int.tdiv q1 (9 : Int) ∧ Int.tdiv q1 (9 : Int) ≤ Int.tdiv q1 (9 : Int) ∧ (↑8 : Int) * Int.tdiv q1 (9 : Int) ≤ (140737488355328 : Int))) ((∃ (z : yC), ((OW 9 (zu a) (yC.z z) (yC.L z) ∧ (yC.z z % 9 ≠ 0 → yC.u z = (10 : Int) ^ (yC.z z % 9)) ∧ iO ≤ yC.u z ∧ yC.u z ≤ iB) ∧ nat_lit 5 = 5 ∧ (nat_lit 4 = 4 ∧ 0 = 0) ∧ q3 ∧ kI ∧ iZ = (cI (yC.z z))) ∧ ((((q4 ∧ (3 : TypeId) = 3 ∧ 1 = 1 ∧ lN (yC.L z) = Int.toNat q2 ∧ ∀ (i j : Nat), i < Int.toNat q2 → j < 1 → zB (ZD (Value.int .i64 iZ)
 j) (aI (gD (yC.L z) i iZ))) ∧ 114 = 114 ∧ 2 = 2 ∧ zG a = zG a ∧ nat_lit 1 = 1 ∧ 0 = 0 ∧ Int.toNat q2 = Int.toNat q2) ∧ (3 : TypeId) = 3 ∧ 1 = 1 ∧ kI ∧ iO = yC.u z) ∧ 9 = 9 ∧ 1 = 1 ∧ zu a = zu a) ∧ lR) ∧ ∀ (z : yC), let q5 := ((lZ (zu a)) - iO - (cI (yC.z z))); let q6 := ((cI (UInt8.toNat (gD (zu a) (Int.toNat q5) (0 : UInt8)))) - (48 : Int)); let q7 := (dK (Int.tdiv (cI (yC.z z)) (9 : Int))); let q8 := (DB.db ((0
 : Int) ≤ Int.tdiv (cI (yC.z z)) (9 : Int) ∧ Int.tdiv (cI (yC.z z)) (9 : Int) < (cI q9))); let q11 := (0 + Int.toNat (Int.tdiv (cI (yC.z z)) (9 : Int))); let q10 := (gD (yC.L z) q11 iZ + q6 * iO); let q12 := (dK ((cI (yC.z z)) + iO)); let q13 := (gD (yC.L z) q11 iZ + q6 * yC.u z); let q14 := (AV.xl false 1 q9 fun i j => aI (gD (yC.L z) (0 + i) iZ)); let q16 := (zO (zW q14)); OW 9 (zu a) (yC.z z) (yC.L z) ∧ (yC.z z % 9 ≠ 0 → yC.u z = (10 : Int) ^ (yC.z z % 9)) ∧ (1 :
 Int) ≤ yC.u z ∧ yC.u z ≤ iB → zY (zH (cI (yC.z z)) (lZ (zu a))) (bF (dK ((lZ (zu a)) - iO)) (bF (dK q5) (bF (DB.db (iZ ≤ (lZ (zu a)) - iO - (cI (yC.z z)) ∧ (lZ (zu a)) - iO - (cI (yC.z z)) < (lZ (zu a)))) (bF (DB.db (Y1 IntKind.u8 q6)) (bF (dK q6) (zY (Int.tmod (cI (yC.z z)) (9 : Int) == iZ) (bF q7 (bF q8 (bF (dK (q6 * (1 :
 Int))) (bF (dK q10) (bF q8 (bF q12 (∃ (z' : yC), (((OW 9 (zu a) (yC.z z') (yC.L z') ∧ (yC.z z' % 9 ≠ 0 → yC.u z' = (10 : Int) ^ (yC.z z' % 9)) ∧ iO ≤ yC.u z' ∧ yC.u z' ≤ iB) ∧ lN (zu a) - yC.z z' < lN (zu a) - yC.z z) ∧ nat_lit 5 = 5 ∧ (nat_lit 4 = 4 ∧ 0 = 0) ∧ q3 ∧ kI ∧ (cI (yC.z z)) + iO = (cI (yC.z z'))) ∧ ((((q4 ∧ 3 = 3 ∧ 1 = 1 ∧ lN (yC.L z') = lN (yC.L z) ∧ ∀ (i j : Nat), i < lN (yC.L z) → j < 1 → zB (if i = 0 + Int.toNat (Int.tdiv (↑(yC.z z)
 : Int) (9 : Int)) ∧ 0 ≤ j ∧ j < 1 then aI q10 else aI (gD (yC.L z) i iZ)) (aI (gD (yC.L z') i iZ))) ∧ 114 = 114 ∧ 2 = 2 ∧ zG a = zG a ∧ nat_lit 1 = 1 ∧ 0 = 0 ∧ Int.toNat q2 = Int.toNat q2) ∧ 3 = 3 ∧ 1 = 1 ∧ kI ∧ iO * (10 : Int) = yC.u z') ∧ 9 = 9 ∧ 1 = 1 ∧ zu a = zu a) ∧ lR))))))) (bF q7 (bF q8 (bF (dK (q6 * yC.u z)) (bF (dK q13) (zY q8
 (bF (dK (yC.u z * (10 : Int))) (bF q12 (∃ (z' : yC), (((OW 9 (zu a) (yC.z z') (yC.L z') ∧ (yC.z z' % 9 ≠ 0 → yC.u z' = (10 : Int) ^ (yC.z z' % 9)) ∧ iO ≤ yC.u z' ∧ yC.u z' ≤ iB) ∧ lN (zu a) - yC.z z' < lN (zu a) - yC.z z) ∧ nat_lit 5 = 5 ∧ (nat_lit 4 = 4 ∧ 0 = 0) ∧ q3 ∧ kI ∧ (cI (yC.z z)) + iO = (cI (yC.z z'))) ∧ ((((q4 ∧ 3 = 3 ∧ 1 = 1 ∧ lN (yC.L z') = lN (yC.L z) ∧ ∀ (i j : Nat), i < lN (yC.L z) → j < 1 → zB (if i = 0 + Int.toNat (Int.tdiv (↑(yC.z z)
 : Int) (9 : Int)) ∧ 0 ≤ j ∧ j < 1 then aI q13 else aI (gD (yC.L z) i iZ)) (aI (gD (yC.L z') i iZ))) ∧ 114 = 114 ∧ 2 = 2 ∧ zG a = zG a ∧ nat_lit 1 = 1 ∧ 0 = 0 ∧ Int.toNat q2 = Int.toNat q2) ∧ 3 = 3 ∧ 1 = 1 ∧ kI ∧ yC.u z * (10 : Int) = yC.u z') ∧ 9 = 9 ∧ 1 = 1 ∧ zu a = zu a) ∧ lR))) False))))))))))) (bF (Zy Int q14) (2 = 2 ∧ zG a = zG a ∧ (false = true →
 false = true) ∧ 1 = 1 ∧ lN q15 = lN q16 ∧ ∀ (i j : Nat), i < lN q16 → j < 1 → kI ∧ gD q16 i zi.dflt = gD q15 i zi.dflt)))))) := by
 delta bF dK lR cI kI lZ lN gD iZ iO iB aI
 dsimp only
 intro hb
 have e0 : (zi.dflt : Int) = 0 := rfl
 simp only [↓ZE, ↓ZR, row_one]
 simp only [sS, dS, e0]
 have hol := X6 a
 have hds : z6 (zu a) = true ∧ (zV a).natAbs = zm (zu a) := M1 hi
 have hall := (Zx.1 hds.1).2.1
 have hpos := (Zx.1 hds.1).1
 rw [hds.2]
 generalize zu a = s at *
 have ed : ((s.length : Int) + 9 - 1).tdiv 9 = ((s.length + 9 - 1) / 9 : Nat) := by rw [Int.tdiv_eq_ediv_of_nonneg (by omega)]; omega
 have ez : ∀ z : Nat, (z : Int).tdiv 9 = (z / 9 : Nat) := fun z => by rw [Int.tdiv_eq_ediv_of_nonneg (by omega)]; omega
 have em : ∀ z : Nat, (z : Int).tmod 9 = (z % 9 : Nat) := fun z => by rw [Int.tmod_eq_emod_of_nonneg (by omega)]; omega
 have en : ∀ z : Nat, ((s.length : Int) - 1 - (z : Int)).toNat = s.length - 1 - z := fun z => by omega
 simp only [ed, ez, em, en, Int.toNat_natCast]
 have hq : (s.length + 9 - 1) / 9 ≤ s.length := by omega
 refine ⟨⟨by omega, by omega⟩, ⟨by omega, by omega⟩, ⟨by omega, by omega⟩, ⟨by omega, Int.le_refl _, by omega⟩, ⟨⟨0, 1, List.replicate ((s.length + 9 - 1) / 9) 0⟩, ⟨⟨OW.start (by omega) s, fun h => absurd rfl h, by simp only; omega, by simp only; omega⟩, rfl⟩, ⟨rfl, by simp, fun i j _ hj => w5 _ i j hj⟩, rfl⟩, fun z ⟨z1, z2, z3, z4⟩ => ⟨fun hz => ?_, fun hz => ?_⟩⟩
 ·have hc := hall _ (We (s := s) (i := s.length - 1 - z.z) (by omega))
  have hdi := yR.1 hc
  obtain ⟨l1, hs⟩ := z1.step (by omega) hall (by omega)
  have l2 := z1.len
  have g1 := hs.in_.get (by omega) (z.z / 9)
  rw [yB _ _ _ _ l1, if_pos rfl] at g1
  have g0 := z1.in_.get (by omega) (z.z / 9)
  have dv : (((s.getD (s.length - 1 - z.z) 0).toNat : Int) - 48) = (vZ (s.getD (s.length - 1 - z.z) 0) : Int) := by unfold vZ; omega
  have d9 := U8 hc
  rw [dv]
  generalize vZ (s.getD (s.length - 1 - z.z) 0) = d at *
  have g2 : z.L.getD (z.z / 9) 0 + (d : Int) * 10 ^ (z.z % 9) < 1000000000 := g1.2
  refine ⟨⟨by omega, by omega⟩, ⟨by omega, by omega⟩, ⟨by omega, by omega⟩, ⟨by omega, by omega⟩, ⟨by omega, by omega⟩, fun h0 => ?_, fun h0 => ?_⟩
  ·have h0' : z.z % 9 = 0 := by omega
   rw [h0', Int.pow_zero, Int.mul_one] at g2 hs
   simp only [Int.mul_one]
   refine ⟨⟨by omega, by omega⟩, ⟨by omega, by omega⟩, ⟨by omega, by omega⟩, ⟨by omega, by omega⟩, ⟨by omega, by omega⟩, ⟨by omega, by omega⟩, ⟨z.z + 1, 10, _⟩, ⟨⟨⟨hs, fun _ => ?_, by simp only; omega, by simp only; omega⟩, by simp only; omega⟩, by simp only; omega⟩, ⟨rfl, by simp, fun i j _ => Up _ _ _ l1 i j⟩, rfl⟩
   simp only
   rw [show (z.z + 1) % 9 = 1 by omega]; rfl
  ·have h0' : z.z % 9 ≠ 0 := by omega
   have hu := z2 h0'
   rw [← hu] at g2 hs
   have hm := Nat.mod_lt z.z (show 0 < 9 by omega)
   have d0 : 0 ≤ (d : Int) * z.u := Int.mul_nonneg (by omega) (by omega)
   have hu9 : z.u ≤ 100000000 := by
    rw [hu]
    have h8 : 10 ^ (z.z % 9) ≤ 100000000 := Nat.le_trans (Nat.pow_le_pow_right (by omega) (show z.z % 9 ≤ 8 by omega)) (by decide)
    have h9 := Int.ofNat_le.2 h8
    rw [Int.natCast_pow] at h9
    exact h9
   refine ⟨⟨by omega, by omega⟩, ⟨by omega, by omega⟩, ⟨by omega, by omega⟩, ⟨by omega, by omega⟩, ⟨by omega, by omega⟩, ⟨by omega, by omega⟩, ⟨by omega, by omega⟩, ⟨z.z + 1, z.u * 10, _⟩, ⟨⟨⟨hs, fun h => ?_, by simp only; omega, by simp only; omega⟩, by simp only; omega⟩, by simp only; omega⟩, ⟨rfl, by simp, fun i j _ => Up _ _ _ l1 i j⟩, rfl⟩
   simp only at h ⊢
   rw [hu, show (z.z + 1) % 9 = z.z % 9 + 1 by omega, Int.pow_succ]
 ·have ez2 : z.z = s.length := by have := z1.le; omega
  have he := (ez2 ▸ z1 : OW 9 s s.length z.L).end_ (by omega)
  have l2 := z1.len
  rw [← l2]
  simp only [sS, dS, e0]
  rw [show zO z.L = zw 1000000000 (zm s) from he]
  exact ⟨fun h => h, rfl, fun _ _ _ _ => rfl⟩
theorem jX (a : List UInt8) (hi : zC a = true) (hl : a.length ≤ 100000000) : zT Tryz.prog [] 87 [.str a] (.agg 2 (zt [.b (zG a), ZF (zw 1000000000 (zV a).natAbs)])) :=
 zU (T := eO) (an := mg a) mixed Nf (Eq.mp (by kernel_rfl) (LD a hi hl))
theorem Ol : zQ Tryz.prog [] 87 UM := by
 intro xs ps r h hp
 unfold UM at h
 split at h
 ·skip
  rename_i a
  cases h
  obtain ⟨q0, q1, -⟩ := Zo hp
  exact weaken (ys := [.str a]) ⟨zr _, trivial⟩ (jX a q0 q1)
 ·cases h
end Go.Te

namespace Go.Proofs
open Go.Shelf
def Tryz.lays169_ren : Go.Shelf.Ren := ⟨fun | 169 => 145 | n => n, fun | 70 => 171 | 9 => 9 | 0 => 0 | 72 => 174 | 37 => 172 | 127 => 220 | 3 => 3 | 5 => 5 | n => n, fun | n => n⟩
theorem Tryz.lays169 : Go.Proofs.Lays.n169 Tryz.prog Tryz.lays169_ren := {
 mixed := by kernel_rfl
 f169 := Tryz.func145.trans (congrArg some (by kernel_rfl))
 t0 := Tryz.underlying0
 a0 := Tryz.isAgg0
 z0 := Tryz.sizeOf0
 v0 := Tryz.zeroValue0
 t3 := Tryz.underlying3
 a3 := Tryz.isAgg3
 z3 := Tryz.sizeOf3
 v3 := Tryz.zeroValue3
 t9 := Tryz.underlying9
 a9 := Tryz.isAgg9
 z9 := Tryz.sizeOf9
 v9 := Tryz.zeroValue9
 t37 := Tryz.underlying172
 a37 := Tryz.isAgg172
 z37 := Tryz.sizeOf172
 v37 := Tryz.zeroValue172
 t70 := Tryz.underlying171
 a70 := Tryz.isAgg171
 z70 := Tryz.sizeOf171
 v70 := Tryz.zeroValue171
 t72 := Tryz.underlying174
 a72 := Tryz.isAgg174
 z72 := Tryz.sizeOf174
 v72 := Tryz.zeroValue174
 t127 := Tryz.underlying220
 a127 := Tryz.isAgg220
 z127 := Tryz.sizeOf220
 v127 := Tryz.zeroValue220 }
theorem Tryz.Builder_Extra_169 : Builder.Extra Tryz.prog Tryz.lays169_ren := {
 sizeBuilder := by kernel_rfl
 liesBuilder := by kernel_rfl
 t5 := Tryz.underlying5
 a5 := Tryz.isAgg5
 z5 := Tryz.sizeOf5
 v5 := Tryz.zeroValue5
 infoByte := by kernel_rfl
 cellsByte := by kernel_rfl
 sizeByte := by kernel_rfl
 neB5 := by decide }
end Go.Proofs

namespace Go.Te
open Go Go.Sx Go.Proofs Go.RowKit Go.Shelf
theorem J2 : (Tryz.prog.info? 174).map (·.size) = some 2 := by kernel_rfl
theorem fy : liesAt Tryz.prog Tryz.prog.depth 174 (2 / Tryz.prog.cellsOf 174) 0 174 1 = true := by kernel_rfl
set_option maxHeartbeats 1000000 in
set_option maxRecDepth 100000 in
theorem JY (b : Nat) (w : World) (h0 : w.cell? ⟨b, 0, none⟩ = some (.pointer (some ⟨b, 0, none⟩))) :
  Calls Tryz.prog 201 #[.pointer (some ⟨b, 0, none⟩)] w fun e w' => e = .returned (.tuple #[]) ∧ w' = w := by
 obtain ⟨j, hj, _⟩ := Option.map_eq_some_iff.1 J2
 go_enter Tryz.func201, Tryz.ntmps201
 go_wp2
 rw [Lib.run_neq_ptr_same w _ Tryz.underlying171 hj]
 go_wp2
 go_end0
 exact ⟨rfl, rfl⟩
set_option maxHeartbeats 1000000 in
set_option maxRecDepth 100000 in
theorem MY (b : Nat) (w : World) (h0 : w.cell? ⟨b, 0, none⟩ = some (.pointer none)) (hsh : w.shape? b = some (174, 2)) (hfz : w.frozen? ⟨b, 0, none⟩ = false) :
  Calls Tryz.prog 201 #[.pointer (some ⟨b, 0, none⟩)] w fun e w' => e = .returned (.tuple #[]) ∧ w' = w.setCell ⟨b, 0, none⟩ (.pointer (some ⟨b, 0, none⟩)) := by
 obtain ⟨j, hj, hjs⟩ := Option.map_eq_some_iff.1 J2
 go_enter Tryz.func201, Tryz.ntmps201
 go_wp2
 rw [Lib.run_to_unsafe w ⟨b, 0, none⟩ Tryz.underlying171 Tryz.underlying255 hj (by rw [hjs]; decide) hsh (Nat.zero_lt_succ 1)]
 simp only [Result.andThen]
 rw [Oper.upon_value]
 go_wp2
 rw [run_callFunc_extern Tryz.func238 (by kernel_rfl) (by kernel_rfl) (by kernel_rfl) (e := Extern.AbiNoEscape.same) (by kernel_rfl)]
 rw [Lib.run_noEscape]
 simp only [Result.andThen]
 rw [Oper.upon_value]
 go_wp2
 rw [Lib.run_from_unsafe w ⟨b, 0, none⟩ Tryz.underlying255 Tryz.underlying171 hj hsh fy]
 simp only [Result.andThen]
 rw [Oper.upon_value]
 go_wp2
 go_end0
 exact ⟨rfl, rfl⟩
section
variable {P : Program} {ρ : Ren}
set_option maxHeartbeats 1000000 in
set_option maxRecDepth 100000 in
theorem Kr (L : Lays.n169 P ρ) (X : Builder.Extra P ρ) (b g cap : Nat) (p : Value) (cur : Array Value) (l : List UInt8) (w : World) (h0 : l ≠ []) (hbk : w.heap[b]? = some (.cells #[p, .slice (some ⟨g, 0, none⟩) l.length cap] (ρ.t 72) (0, 0)))
  (hg : w.heap[g]? = some (.cells cur (ρ.t 5) (0, 0))) (hnc : l.length ≤ cap) (hcm : cap ≤ maxLen) (hcs : cur.size = cap) (hcell : ∀ (j : Nat) (x : UInt8), l[j]? = some x → cur[j]? = some (Value.int .u8 x.toNat)) :
  Calls P (ρ.f 169) #[.pointer (some ⟨b, 0, none⟩)] w fun e w' => e = .returned (.string ⟨l.toArray⟩) ∧ w' = w.drew.freeze ⟨g, 0, none⟩ l.length := by
 have hl0 : l.length ≠ 0 := by simpa using h0
 have c1 : w.drew.cell? ⟨b, 1, none⟩ = some (.slice (some ⟨g, 0, none⟩) l.length cap) := by
  have : w.drew.heap[b]? = some (.cells #[p, .slice (some ⟨g, 0, none⟩) l.length cap] (ρ.t 72) (0, 0)) := hbk
  rw [Lib.cell_of_heap this]; rfl
 have hSD : (Builtin.unsafeSliceData_ #[(ρ.t 37)] (ρ.t 127) #[.slice (some ⟨g, 0, none⟩) l.length cap]).run P w.drew = .ok (.pointer (some ⟨g, 0, none⟩)) w.drew :=
  Lib.run_unsafeSliceData_row _ _ _ _ _ _ (by omega)
 have hUS : (Builtin.unsafeString_ #[(ρ.t 127), (ρ.t 3)] (ρ.t 9) #[.pointer (some ⟨g, 0, none⟩), .int .i64 l.length]).run P w.drew = .ok (.string ⟨l.toArray⟩) (w.drew.freeze ⟨g, 0, none⟩ l.length) := by
  refine Lib.run_unsafeString_row w.drew (ρ.t 127) (ρ.t 3) (ρ.t 9) (ρ.t 5) L.t127 X.cellsByte g cur.size (by have hg' : w.drew.heap[g]? = some (.cells cur (ρ.t 5) (0, 0)) := hg; simp [World.shape?, hg']) l h0 (by omega) (by unfold maxLen at hcm; omega) ?_
  intro j x hx
  have hg' : w.drew.heap[g]? = some (.cells cur (ρ.t 5) (0, 0)) := hg
  rw [add_lit, Nat.zero_add, Lib.cell_of_heap hg']
  simp_all
 have mixed := L.mixed
 have t72 := L.t72; have a72 := L.a72; have z72 := L.z72; have v72 := L.v72; have u72 := run_underlying L.t72
 have t70 := L.t70; have a70 := L.a70; have z70 := L.z70; have v70 := L.v70; have u70 := run_underlying L.t70
 have t37 := L.t37; have a37 := L.a37; have z37 := L.z37; have v37 := L.v37; have u37 := run_underlying L.t37
 have t127 := L.t127; have a127 := L.a127; have z127 := L.z127; have v127 := L.v127; have u127 := run_underlying L.t127
 have t3 := L.t3; have a3 := L.a3; have z3 := L.z3; have v3 := L.v3; have u3 := run_underlying L.t3
 have t9 := L.t9; have a9 := L.a9; have z9 := L.z9; have v9 := L.v9; have u9 := run_underlying L.t9
 have t5 := X.t5; have a5 := X.a5; have z5 := X.z5; have v5 := X.v5; have u5 := run_underlying X.t5
 go_enter L.f169, Body.n169_ntmps ρ
 go_wp2
 go_region_o
 all_goals (go_wp2; go_ret; exact ⟨rfl, rfl⟩)
set_option maxHeartbeats 2000000 in
set_option maxRecDepth 100000 in
theorem jQ (L : Lays.n169 P ρ) (X : Builder.Extra P ρ) (b : Nat) (p : Value) (w : World) (hbk : w.heap[b]? = some (.cells #[p, .slice none 0 0] (ρ.t 72) (0, 0))) :
  Calls P (ρ.f 169) #[.pointer (some ⟨b, 0, none⟩)] w fun e w' => e = .returned (.string ⟨#[]⟩) ∧ w' = w.drew := by
 have hUS := Any.unsafeString_none L X
 have c1 : w.drew.cell? ⟨b, 1, none⟩ = some (.slice none 0 0) := by
  have : w.drew.heap[b]? = some (.cells #[p, .slice none 0 0] (ρ.t 72) (0, 0)) := hbk
  rw [Lib.cell_of_heap this]; rfl
 have hSD : (Builtin.unsafeSliceData_ #[(ρ.t 37)] (ρ.t 127) #[.slice none 0 0]).run P w.drew = .ok (.pointer none) w.drew := rfl
 have mixed := L.mixed
 have t72 := L.t72; have a72 := L.a72; have z72 := L.z72; have v72 := L.v72; have u72 := run_underlying L.t72
 have t70 := L.t70; have a70 := L.a70; have z70 := L.z70; have v70 := L.v70; have u70 := run_underlying L.t70
 have t37 := L.t37; have a37 := L.a37; have z37 := L.z37; have v37 := L.v37; have u37 := run_underlying L.t37
 have t127 := L.t127; have a127 := L.a127; have z127 := L.z127; have v127 := L.v127; have u127 := run_underlying L.t127
 have t3 := L.t3; have a3 := L.a3; have z3 := L.z3; have v3 := L.v3; have u3 := run_underlying L.t3
 have t9 := L.t9; have a9 := L.a9; have z9 := L.z9; have v9 := L.v9; have u9 := run_underlying L.t9
 have t5 := X.t5; have a5 := X.a5; have z5 := X.z5; have v5 := X.v5; have u5 := run_underlying X.t5
 go_enter L.f169, Body.n169_ntmps ρ
 go_wp2
 go_region_o
 all_goals (go_wp2; go_ret; exact ⟨rfl, rfl⟩)
end
section
variable {E : Env} {nb : Nat} {bl : Nat → OB} {S : Nat → Prop} {ρ : Nat → Go.Sx.Own} {w : World}
theorem Mem.off (h : Mem E nb bl S ρ w) {w' : World} (g : Nat) (hw : ∀ b, b ≠ g → w'.heap[b]? = w.heap[b]?) (hsz : w'.heap.size = w.heap.size) (e1 : w'.os = w.os) (e2 : w'.tape = w.tape) (e3 : w'.output = w.output) (e5 : dn w ≤ dn w')
  (hS : ¬ S g) (hρ : ∀ k, ¬ (ρ k).has g) (hg3 : E.w0.heap.size ≤ g ∨ E.X g) : Mem E nb bl S ρ w' ∧ ∀ b, S b → S b ∧ w'.heap[b]? = w.heap[b]? := by
 have hS' : ∀ b, S b → S b ∧ w'.heap[b]? = w.heap[b]? := fun b hb => ⟨hb, hw b fun e => hS (e ▸ hb)⟩
 refine ⟨⟨?_, ?_, h.sup, h.sub, ?_, h.hi, ?_, h.own, h.dis, h.b0, h.nbz, h.ole⟩, hS'⟩
 ·refine h.fr.trans (fun b hb hx => hw b fun e => ?_) e1 e2 e3 (by omega) e5
  subst e
  rcases hg3 with ho | ho
  ·omega
  ·exact hx ho
 ·intro b hb; rw [hsz]; exact h.sb b hb
 ·intro b o hbo
  obtain ⟨h1, h2⟩ := h.glob b o hbo
  exact ⟨h1, (hS' b h1).2.trans h2⟩
 ·intro k hk
  exact (h.ok k hk).mono hS' (zf.refl _) fun g' hg' => hw g' fun e => hρ k (e ▸ hg')
theorem Mem.drewn (h : Mem E nb bl S ρ w) {w' : World} (hh : w'.heap = w.heap) (e1 : w'.os = w.os) (e2 : w'.tape = w.tape) (e3 : w'.output = w.output) (e5 : dn w ≤ dn w') :
  Mem E nb bl S ρ w' ∧ ∀ b, S b → S b ∧ w'.heap[b]? = w.heap[b]? := by
 have hS' : ∀ b, S b → S b ∧ w'.heap[b]? = w.heap[b]? := fun b hb => ⟨hb, by rw [hh]⟩
 refine ⟨⟨?_, ?_, h.sup, h.sub, ?_, h.hi, ?_, h.own, h.dis, h.b0, h.nbz, h.ole⟩, hS'⟩
 ·exact h.fr.trans (fun b hb hx => by rw [hh]) e1 e2 e3 (by rw [hh]; exact Nat.le_refl _) e5
 ·intro b hb; rw [hh]; exact h.sb b hb
 ·intro b o hbo
  obtain ⟨h1, h2⟩ := h.glob b o hbo
  exact ⟨h1, (hS' b h1).2.trans h2⟩
 ·intro k hk
  exact (h.ok k hk).mono hS' (zf.refl _) fun g' hg' => by rw [hh]
end
def fI (nb : Nat) (bl : Nat → OB) (xs : List AV) (k : Nat → (Nat → OB) → AV → Prop) : Prop :=
 match xs with
 | [.np b 0] =>
  match bl b with
  | .box t n cs =>
   zY (Nat.beq t 174 && Nat.beq n 2 && Nat.blt b nb)
    (match cs 0 with
    | .v (.pointer none) => k nb (upd bl b (.box 174 2 (zt [.np b 0, cs 1]))) (.tup 0 fun _ => .junk)
    | .np b' 0 => zY (Nat.beq b' b) (k nb bl (.tup 0 fun _ => .junk)) False
    | _ => ZH b) False
  | _ => ZH b
 | _ => ZH xs
theorem IY (G : List (Nat × Obj)) : TY Tryz.prog G 201 fI := by
 refine ⟨enters_of Tryz.func201 (by kernel_rfl) rfl, ?_, ?_⟩
 ·intro nb bl xs k k' hk h
  unfold fI at h ⊢
  split at h
  ·split at h
   ·rw [zv] at h ⊢
    refine ⟨fun hc => ?_, fun hc => (h.2 hc).elim⟩
    replace h := h.1 hc
    split at h
    ·exact hk _ _ _ h
    ·rw [zv] at h ⊢
     exact ⟨fun hb => hk _ _ _ (h.1 hb), fun hb => (h.2 hb).elim⟩
    ·exact h
   ·exact h
  ·exact h
 ·intro E nb bl S ρ w xs vs k _ hM hx h
  unfold fI at h
  split at h
  ·rename_i b
   split at h
   ·rename_i t n cs hB
    rw [zv] at h
    cases hc : Nat.beq t 174 && Nat.beq n 2 && Nat.blt b nb with
    | false => exact (h.2 hc).elim
    | true =>
    replace h := h.1 hc
    simp only [Bool.and_eq_true] at hc
    obtain rfl := Nat.eq_of_beq_eq_true hc.1.1
    obtain rfl := Nat.eq_of_beq_eq_true hc.1.2
    have hlt : b < nb := Nat.le_of_ble_eq_true hc.2
    match vs, hx with
    | [v], ⟨hv, _⟩ =>
    cases hv with
    | dnp hd hsh => exact (hM.box (by rw [hB]; rfl) hd).elim
    | np g hk =>
    have hbk := (hM.at b).resolve_left (by rw [hk]; simp)
    rw [hB, hk] at hbk
    obtain ⟨⟨l⟩, c1, c2, c3⟩ := hbk
    match l, c2 with
    | [x, y], _ =>
    have r0 := (c3 0 (by omega)).1
    have e0 : w.cell? ⟨g, 0, none⟩ = some x := by rw [Lib.cell_of_heap c1]; rfl
    have hr : zF w S ρ (.np b 0) (.pointer (some ⟨g, 0, none⟩)) := .np g hk
    split at h
    ·rename_i hcs
     rw [hcs] at r0
     have ex : x = .pointer none := by
      have : (⟨[x, y]⟩ : Array Value).getD 0 undef = x := rfl
      rw [this] at r0
      cases r0; rfl
     subst ex
     refine (MY g w e0 (by simp [World.shape?, c1]) (by simp [World.frozen?, c1])).mono ?_
     rintro e w' ⟨rfl, rfl⟩
     have hh : (w.setCell ⟨g, 0, none⟩ (.pointer (some ⟨g, 0, none⟩))).heap[g]? = some (.cells #[.pointer (some ⟨g, 0, none⟩), y] 174 (0, 0)) := by
      simp [World.setCell, Array.getElem?_modify, c1]
     have hw : ∀ b, b ≠ g → (w.setCell ⟨g, 0, none⟩ (.pointer (some ⟨g, 0, none⟩))).heap[b]? = w.heap[b]? := fun b hb => by
      simp [World.setCell, Array.getElem?_modify, Ne.symm hb]
     have hS : ∀ b, S b → S b ∧ (w.setCell ⟨g, 0, none⟩ (.pointer (some ⟨g, 0, none⟩))).heap[b]? = w.heap[b]? := fun b' hb' => ⟨hb', hw b' fun e' => (hM.own b g (by rw [hk]; rfl)).1 (e' ▸ hb')⟩
     obtain ⟨m1, m2⟩ := hM.write (k := b) (g := g) (B := .box 174 2 (zt [.np b 0, cs 1])) hlt (by rw [hk]; rfl) hw (by simp [World.setCell]) rfl rfl rfl (Nat.le_refl _) (by
      rw [hk]
      refine ⟨_, hh, rfl, fun i hi => ?_⟩
      match i, hi with
      | 0, _ => exact ⟨.np g hk, rfl⟩
      | 1, _ => exact ⟨((c3 1 (by omega)).1).mono hS (zf.refl _), (c3 1 (by omega)).2⟩)
     exact ⟨_, _, S, ρ, _, _, rfl, h, m1, m2, zf.refl _, .tup #[] rfl fun i hi => absurd hi (Nat.not_lt_zero _)⟩
    ·rename_i b' hcs
     rw [zv] at h
     cases hb : Nat.beq b' b with
     | false => exact (h.2 hb).elim
     | true =>
     replace h := h.1 hb
     obtain rfl := Nat.eq_of_beq_eq_true hb
     rw [hcs] at r0
     have ex : x = .pointer (some ⟨g, 0, none⟩) := by
      have : (⟨[x, y]⟩ : Array Value).getD 0 undef = x := rfl
      rw [this] at r0
      cases r0 with
      | np g' hk' => rw [hk] at hk'; cases hk'; rfl
      | dnp hd => exact (hM.box (by rw [hB]; rfl) hd).elim
     subst ex
     refine (JY g w e0).mono ?_
     rintro e w' ⟨rfl, rfl⟩
     exact ⟨_, _, S, ρ, _, _, rfl, h, hM, fun b hb => ⟨hb, rfl⟩, zf.refl _, .tup #[] rfl fun i hi => absurd hi (Nat.not_lt_zero _)⟩
    ·exact h.elim
   ·exact h.elim
  ·exact h.elim
def jL (nb : Nat) (bl : Nat → OB) (xs : List AV) (k : Nat → (Nat → OB) → AV → Prop) : Prop :=
 match xs with
 | [.np b 0] =>
  match bl b with
  | .box t n cs =>
   zY (Nat.beq t 174 && Nat.beq n 2)
    (match cs 1 with
    | .v (.slice none 0 0) => k nb bl (.str [])
    | .ns j 0 len =>
     match bl j with
     | .arr e sz _ els => zY (Nat.beq e 5 && Nat.beq sz 1 && Nat.blt j nb) (0 < len ∧ ∃ l : List UInt8, l.length = len ∧ (∀ i, i < len → els i 0 = .v (.int .u8 (l.getD i 0).toNat)) ∧ k nb (upd bl j .dead) (.str l)) False
     | _ => ZH b
    | _ => ZH b) False
  | _ => ZH b
 | _ => ZH xs
theorem KN (G : List (Nat × Obj)) : TY Tryz.prog G 145 jL := by
 refine ⟨enters_of Tryz.func145 (by kernel_rfl) rfl, ?_, ?_⟩
 ·intro nb bl xs k k' hk h
  unfold jL at h ⊢
  split at h
  ·split at h
   ·rw [zv] at h ⊢
    refine ⟨fun hc => ?_, fun hc => (h.2 hc).elim⟩
    replace h := h.1 hc
    split at h
    ·exact hk _ _ _ h
    ·split at h
     ·rw [zv] at h ⊢
      refine ⟨fun hb => ?_, fun hb => (h.2 hb).elim⟩
      obtain ⟨h1, l, h2, h3, h4⟩ := h.1 hb
      exact ⟨h1, l, h2, h3, hk _ _ _ h4⟩
     ·exact h
    ·exact h
   ·exact h
  ·exact h
 ·intro E nb bl S ρ w xs vs k _ hM hx h
  unfold jL at h
  split at h
  ·rename_i b
   split at h
   ·rename_i t n cs hB
    rw [zv] at h
    cases hc : Nat.beq t 174 && Nat.beq n 2 with
    | false => exact (h.2 hc).elim
    | true =>
    replace h := h.1 hc
    simp only [Bool.and_eq_true] at hc
    obtain rfl := Nat.eq_of_beq_eq_true hc.1
    obtain rfl := Nat.eq_of_beq_eq_true hc.2
    match vs, hx with
    | [v], ⟨hv, _⟩ =>
    cases hv with
    | dnp hd hsh => exact (hM.box (by rw [hB]; rfl) hd).elim
    | np g hk =>
    have hbk := (hM.at b).resolve_left (by rw [hk]; simp)
    rw [hB, hk] at hbk
    obtain ⟨⟨l⟩, c1, c2, c3⟩ := hbk
    match l, c2 with
    | [x, y], _ =>
    have r1 := (c3 1 (by omega)).1
    have ey : (⟨[x, y]⟩ : Array Value).getD 1 undef = y := rfl
    rw [ey] at r1
    split at h
    ·rename_i hcs
     rw [hcs] at r1
     obtain rfl := ZW r1
     refine (jQ Tryz.lays169 Tryz.Builder_Extra_169 g x w c1).mono ?_
     rintro e w' ⟨rfl, rfl⟩
     obtain ⟨m1, m2⟩ := Mem.drewn hM (w' := w.drew) rfl rfl rfl rfl (se w 1)
     exact ⟨_, _, S, ρ, _, _, rfl, h, m1, m2, zf.refl _, .str []⟩
    ·rename_i j len hcs
     split at h
     ·rename_i el sz L els hA
      rw [zv] at h
      cases hb : Nat.beq el 5 && Nat.beq sz 1 && Nat.blt j nb with
      | false => exact (h.2 hb).elim
      | true =>
      obtain ⟨h1, l, h2, h3, h4⟩ := h.1 hb
      simp only [Bool.and_eq_true] at hb
      obtain rfl := Nat.eq_of_beq_eq_true hb.1.1
      obtain rfl := Nat.eq_of_beq_eq_true hb.1.2
      have hj : j < nb := Nat.le_of_ble_eq_true hb.2
      rw [hcs] at r1
      cases r1 with
      | dns hd hsh => exact (hM.arr (by rw [hA]; rfl) hd).elim
      | ns0 => exact absurd h1 (Nat.lt_irrefl _)
      | nsn => exact absurd h1 (Nat.lt_irrefl _)
      | ns g' base cap sz' L' hk' hl hcap =>
       subst h2
       have hb0 := hM.b0 _ _ _ _ _ _ hk'
       subst hb0
       have hbj := (hM.at j).resolve_left (by rw [hk']; simp)
       rw [hA, hk'] at hbj
       obtain ⟨e1, e2, q1, q2, c, q3, q4, q5⟩ := hbj
       subst e1; subst e2
       simp only [Nat.zero_add] at q4 q5 hl
       have hl0 : l ≠ [] := fun e => by rw [e] at h1; exact absurd h1 (Nat.lt_irrefl _)
       have hcell : ∀ (i : Nat) (z : UInt8), l[i]? = some z → c[i]? = some (Value.int .u8 z.toNat) := fun i z hz => by
        have hi : i < l.length := (List.getElem?_eq_some_iff.1 hz).1
        have r := (q5 i 0 (by omega) (by omega)).1
        rw [h3 i hi] at r
        have e3 := ZW r
        rw [Nat.mul_one, Nat.add_zero, List.getD_eq_getElem?_getD, hz, Option.getD_some] at e3
        have hlt : i < c.size := by omega
        rw [Array.getD_eq_getD_getElem?, Array.getElem?_eq_getElem hlt, Option.getD_some] at e3
        rw [Array.getElem?_eq_getElem hlt, e3]
       have hrun := Kr Tryz.lays169 Tryz.Builder_Extra_169 g g' cap x c l w hl0 (by have := c1; simp only [Nat.zero_add, Nat.zero_mul, Nat.sub_zero] at this; exact this) q3 (by omega) q2 (by omega) hcell
       refine hrun.mono ?_
       rintro e w' ⟨rfl, rfl⟩
       obtain ⟨k1, k2, k3⟩ := hM.kill j hj false
       have k1' : Mem E nb (upd bl j .dead) S (upd ρ j .dead) w := by
        have : (fun b => S b ∨ (false = true ∧ (ρ j).has b)) = S := by funext b; simp
        rw [this] at k1; exact k1
       obtain ⟨o1, o2⟩ := hM.own j g' (by rw [hk']; rfl)
       obtain ⟨m1, m2⟩ := Mem.off k1' (w' := w.drew.freeze ⟨g', 0, none⟩ l.length) g' (fun b hb => by
         unfold World.freeze
         split
         ·rfl
         ·show (w.heap.modify g' _)[b]? = w.heap[b]?
          simp [Array.getElem?_modify, Ne.symm hb]) (by
         unfold World.freeze
         split
         ·rfl
         ·show (w.heap.modify g' _).size = w.heap.size
          simp) (by unfold World.freeze; split <;> rfl) (by unfold World.freeze; split <;> rfl) (by unfold World.freeze; split <;> rfl) (by unfold World.freeze; split <;> exact se w 1)
         o1 (fun i hi => by
          by_cases e : i = j
          ·subst e; rw [upd_same] at hi; exact hi.elim
          ·rw [zM _ _ e] at hi; exact e (hM.dis i j g' hi (by rw [hk']; rfl))) o2
       exact ⟨_, _, S, _, _, _, rfl, h4, m1, m2, k2, .str l⟩
     ·exact h.elim
    ·exact h.elim
   ·exact h.elim
  ·exact h.elim
end Go.Te
