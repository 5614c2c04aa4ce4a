/- integer: contracts of the small functions. -/
import Derived.Test.YtdkpceodckdcfaaGreatDoorTeJ
import Derived.Test.YtdkpceodckdcfaaGreatDoorArI
set_option linter.unusedSimpArgs false
set_option linter.unusedVariables false
namespace Go.Te
open Go Go.Sx Go.Proofs Go.Ar Go.Lib
set_option maxRecDepth 100000
set_option maxHeartbeats 4000000
theorem Xw {p : Nat → Prop} : vR p 0 := trivial
theorem YB {l : List Int} {z i : Nat} (h : i < z) : (l.take z).getD i 0 = l.getD i 0 := by
 rw [List.getD_eq_getElem?_getD, List.getElem?_take, if_pos h, ← List.getD_eq_getElem?_getD]
def MC (l : List Int) : yW :=
 .two .auto (.two (.one (.loop Nat (fun σ z => [(0, Zp (l.take z))]) (fun σ z => []) 0 (fun σ z => z ≤ l.length ∧ ∀ i, z ≤ i → l.getD i 0 = 0) (fun σ z => z) .auto)) .auto)
def W4 : List AV → Option (List zN × AV)
 | [x_l] => some ([.b (za Int x_l)], Zp (zm (zv x_l)))
 | _ => none
theorem M5 (l : List Int) :
 zB [xI l] → (∃ (z : Nat), ((z ≤ lN l ∧ ∀ (i : Nat), z ≤ i → gD l i iZ = iZ) ∧ (false = true → false = true) ∧ 1 = 1 ∧ lN (List.take z l) = lN l ∧ ∀ (i j : Nat), i < lN l → j < 1 → kI ∧ gD l i zp.dflt = gD (List.take z l) i zp.dflt) ∧ True) ∧ ∀ (z : Nat), let q2 := (zn iZ (lZ (List.take z l))); let q1 := (!zU true q2 || zU true q2); let q4 := ((lZ (List.take z l)) - iO);
 let q3 := (YZ .i64 q4); (z ≤ lN l ∧ ∀ (i : Nat), z ≤ i → gD l i iZ = iZ) → bF q1 (bF q1 (bF (!zU true q2 || DB.db q3) (bF q1 (bF q1 (bF (!zU true q2 || DB.db (iZ ≤ (lZ (List.take z l)) - iO ∧ (lZ (List.take z l)) - iO < (lZ (List.take z l)))) (bF q1 (bF q1 (bF (!zn iZ (lZ (List.take z l)) || zU true q2) (zZ (bif zn iZ (lZ (List.take z l)) then gD (List.take z l) (Int.toNat q4) zp.dflt
 == iZ else false) (bF (DB.db q3) (bF (DB.db (iZ ≤ (lZ (List.take z l)) - iO ∧ (lZ (List.take z l)) - iO ≤ (lZ (List.take z l)))) (∃ (z' : Nat), (((z' ≤ lN l ∧ ∀ (i : Nat), z' ≤ i → gD l i iZ = iZ) ∧ z' < z) ∧ (false = true → false = true) ∧ 1 = 1 ∧ lN (List.take z' l) = Int.toNat q4 ∧ ∀ (i j : Nat), i < Int.toNat q4 → j < 1 → kI ∧ gD (List.take z l) i zp.dflt = gD (List.take z' l) i zp.dflt) ∧ True))) ((false = true → false
 = true) ∧ 1 = 1 ∧ lN (zm l) = lN (List.take z l) ∧ ∀ (i j : Nat), i < lN (List.take z l) → j < 1 → kI ∧ gD (List.take z l) i zp.dflt = gD (zm l) i zp.dflt)))))))))) := by
 delta bF xI kI lZ lN gD iZ iO
 dsimp only
 intro hb
 have e0 : (zp.dflt : Int) = 0 := rfl
 simp only [↓ZK, ↓ZT, row_one]
 simp only [sS, dS, e0, Ze, wT]
 have hb1 : l.length ≤ 9223372036854775807 := hb.1
 have lt : ∀ z, z ≤ l.length → (l.take z).length = z := fun z h => by rw [List.length_take]; omega
 refine ⟨⟨l.length, ⟨Nat.le_refl _, fun i hi => wv hi⟩, fun h => h, lt _ (Nat.le_refl _), fun i j hi _ => (YB hi).symm⟩, fun z ⟨h1, h2⟩ => ?_⟩
 rw [lt z h1]
 refine ⟨fun hp => ?_, fun hp => ?_, zu.2 ⟨fun c => ?_, fun c => ?_⟩⟩
 ·have := (zC _ _).1 hp; exact ⟨by omega, by omega⟩
 ·have := (zC _ _).1 hp; exact ⟨by omega, by omega⟩
 ·rw [Bool.and_eq_true, beq_iff_eq] at c
  have hp := (zC _ _).1 c.1
  have c2 := c.2
  rw [YB (by omega)] at c2
  refine ⟨⟨by omega, by omega⟩, ⟨by omega, by omega⟩, z - 1, ⟨⟨by omega, fun i hi => ?_⟩, by omega⟩, fun h => h, lt _ (by omega), fun i j hi _ => by rw [YB (by omega), YB hi]⟩
  by_cases e : i = z - 1
  ·rw [e]; exact c2
  ·exact h2 i (by omega)
 ·have ht := wq h1 h2 (by
   by_cases hz : z = 0
   ·exact .inl hz
   ·refine .inr fun e => ?_
    rw [YB (by omega), e, (zC _ _).2 (by omega)] at c
    cases c)
  rw [ht]
  exact ⟨fun h => h, lt z h1, fun i j hi _ => rfl⟩
theorem jR (l : List Int) : zS Tryz.prog [] 212 [Zp l] (Zp (zm l)) :=
 zV (T := T0) (an := MC l) mixed zr (Eq.mp (by kernel_rfl) (M5 l))
theorem UU : zQ Tryz.prog [] 212 W4 := by
 intro xs ps r h hp
 unfold W4 at h
 split at h
 ·skip
  rename_i x_l
  cases h
  obtain ⟨q0, -⟩ := Zx hp
  exact weaken (ys := [Zp (zv x_l)]) ⟨zi q0, trivial⟩ (jR (zv x_l))
 ·cases h
def Vw : List AV → Option (List zN × AV)
 | [x_l, .v (.int .i64 i)] => some ([.b (za Int x_l), .p (0 ≤ i)], .i ((zv x_l).getD i.toNat 0))
 | _ => none
theorem LN (l : List Int) (i : Int) (h0 : 0 ≤ i) :
 zB [xI l, aI i] → zZ (zn i (lZ l)) (bF (DB.db (iZ ≤ i ∧ i < (lZ l))) (kI ∧ gD l (Int.toNat i) zp.dflt = gD l (Int.toNat i) iZ)) (kI ∧ iZ = gD l (Int.toNat i) iZ) := by
 delta bF xI kI lZ gD iZ aI
 intro hb
 have e0 : (zp.dflt : Int) = 0 := rfl
 simp only [sS, dS, e0, Ze]
 exact ⟨fun h => ⟨h0, h⟩, fun h => (wv (by omega)).symm⟩
theorem LF (l : List Int) (i : Int) (h0 : 0 ≤ i) : zS Tryz.prog [] 237 [Zp l, .i i] (.i (l.getD i.toNat 0)) :=
 zV (T := T0) (an := .auto) mixed zr (Eq.mp (by kernel_rfl) (LN l i h0))
theorem rX : zQ Tryz.prog [] 237 Vw := by
 intro xs ps r h hp
 unfold Vw at h
 split at h
 ·skip
  rename_i x_l i
  cases h
  obtain ⟨q0, q1, -⟩ := Zx hp
  exact weaken (ys := [Zp (zv x_l), .i i]) ⟨zi q0, zX _, trivial⟩ (LF (zv x_l) i q1)
 ·cases h
def rD : List AV → Option (List zN × AV)
 | [.v (.int .i64 x), .v (.int .i64 y), .v (.int .i64 c)] => some ([.p (0 ≤ x ∧ x ≤ 999999999), .p (0 ≤ y ∧ y ≤ 999999999), .p (0 ≤ c ∧ c ≤ 999999999)], .tup 2 (zT [.i ((x + y + c).tmod 1000000000), .i ((x + y + c).tdiv 1000000000)]))
 | _ => none
theorem lF (x : Int) (y : Int) (c : Int) (h1 : 0 ≤ x ∧ x ≤ 999999999) (h2 : 0 ≤ y ∧ y ≤ 999999999) (h3 : 0 ≤ c ∧ c ≤ 999999999) :
 zB [aI x, aI y, aI c] → bF (dK (x + y)) (bF (dK (x + y + c)) (bF (dK (x + y)) (bF (dK (x + y + c)) (bF (dK (Int.tdiv (x + y + c) iB)) (j2 ∧ (True ∧ kI ∧ Int.tmod (x + y + c) iB = Int.tmod (x + y + c) iB) ∧ kI ∧ Int.tdiv (x + y + c) iB = Int.tdiv (x + y + c) iB))))) := by
 delta bF dK kI j2 iB aI
 intro hb
 simp only [sS, dS]
 have hd : 0 ≤ (x + y + c).tdiv 1000000000 ∧ (x + y + c).tdiv 1000000000 ≤ x + y + c := by
  rw [Int.tdiv_eq_ediv_of_nonneg (by omega)]; omega
 exact ⟨⟨by omega, by omega⟩, ⟨by omega, by omega⟩, ⟨by omega, by omega⟩, ⟨by omega, by omega⟩, ⟨by omega, by omega⟩, rfl⟩
theorem Km (x : Int) (y : Int) (c : Int) (h1 : 0 ≤ x ∧ x ≤ 999999999) (h2 : 0 ≤ y ∧ y ≤ 999999999) (h3 : 0 ≤ c ∧ c ≤ 999999999) : zS Tryz.prog [] 207 [.i x, .i y, .i c] (.tup 2 (zT [.i ((x + y + c).tmod 1000000000), .i ((x + y + c).tdiv 1000000000)])) :=
 zV (T := T0) (an := .auto) mixed zr (Eq.mp (by kernel_rfl) (lF x y c h1 h2 h3))
theorem Kf : zQ Tryz.prog [] 207 rD := by
 intro xs ps r h hp
 unfold rD at h
 split at h
 ·skip
  rename_i x y c
  cases h
  obtain ⟨q0, q1, q2, -⟩ := Zx hp
  exact weaken (ys := [.i x, .i y, .i c]) ⟨zX _, zX _, zX _, trivial⟩ (Km x y c q0 q1 q2)
 ·cases h
def tj : List AV → Option (List zN × AV)
 | [.v (.int .i64 x), .v (.int .i64 y), .v (.int .i64 c)] => some ([.p (0 ≤ x ∧ x ≤ 999999999), .p (0 ≤ y ∧ y ≤ 999999999), .p (0 ≤ c ∧ c ≤ 999999999)], .tup 2 (zT [.i (bif zn (x - y - c) 0 then x - y - c + 1000000000 else x - y - c), .i (bif zn (x - y - c) 0 then 1 else 0)]))
 | _ => none
theorem O7 (x : Int) (y : Int) (c : Int) (h1 : 0 ≤ x ∧ x ≤ 999999999) (h2 : 0 ≤ y ∧ y ≤ 999999999) (h3 : 0 ≤ c ∧ c ≤ 999999999) :
 zB [aI x, aI y, aI c] → bF (dK (x - y)) (bF (dK (x - y - c)) (zZ (leB iZ (x - y - c)) (j2 ∧ (True ∧ kI ∧ x - y - c = bif zn (x - y - c) iZ then x - y - c + iB else x - y - c) ∧ kI ∧ iZ = bif zn (x - y - c) iZ then iO else iZ) (bF (dK (x - y)) (bF (dK (x - y - c)) (bF (dK (x - y - c + iB)) (2 = List.length
 [AV.junk, AV.junk] ∧ (True ∧ kI ∧ x - y - c + iB = bif zn (x - y - c) iZ then x - y - c + iB else x - y - c) ∧ kI ∧ iO = bif zn (x - y - c) iZ then iO else iZ)))))) := by
 delta bF dK kI j2 iZ iO iB aI
 intro hb
 simp only [sS, dS]
 refine ⟨⟨by omega, by omega⟩, ⟨by omega, by omega⟩, fun h => ?_, fun h => ⟨⟨by omega, by omega⟩, ⟨by omega, by omega⟩, ⟨by omega, by omega⟩, ?_⟩⟩
 ·rw [show zn (x - y - c) 0 = false by rw [Bool.eq_false_iff, Ne, zq]; omega]
  exact ⟨rfl, rfl, rfl⟩
 ·rw [show zn (x - y - c) 0 = true by rw [zq]; omega]
  exact ⟨rfl, rfl, rfl⟩
theorem l7 (x : Int) (y : Int) (c : Int) (h1 : 0 ≤ x ∧ x ≤ 999999999) (h2 : 0 ≤ y ∧ y ≤ 999999999) (h3 : 0 ≤ c ∧ c ≤ 999999999) : zS Tryz.prog [] 209 [.i x, .i y, .i c] (.tup 2 (zT [.i (bif zn (x - y - c) 0 then x - y - c + 1000000000 else x - y - c), .i (bif zn (x - y - c) 0 then 1 else 0)])) :=
 zV (T := T0) (an := .auto) mixed zr (Eq.mp (by kernel_rfl) (O7 x y c h1 h2 h3))
theorem M8 : zQ Tryz.prog [] 209 tj := by
 intro xs ps r h hp
 unfold tj at h
 split at h
 ·skip
  rename_i x y c
  cases h
  obtain ⟨q0, q1, q2, -⟩ := Zx hp
  exact weaken (ys := [.i x, .i y, .i c]) ⟨zX _, zX _, zX _, trivial⟩ (l7 x y c q0 q1 q2)
 ·cases h
noncomputable def gb : Tb := (((T0.plus 212 W4).plus 237 Vw).plus 207 rD).plus 209 tj
theorem uu : zY Tryz.prog gb := zY.plus (zY.plus (zY.plus (zY.plus zr UU) rX) Kf) M8
def m9 (x y : List Int) : yW :=
 .two .auto (.two .auto (.two .auto (.two (.two .auto (.one (.loop ZU (fun σ z => [(0, σ.tm 0), (1, σ.tm 1), (2, σ.tm 2), (17, σ.tm 17), (7, .ns σ.nb 0 z.out.length), (8, .i z.c), (18, .i (z.out.length : Int))]) (fun σ z => [(σ.nb, w8 z.out)]) 1 (fun σ z => Wo 1000000000 x y z.out.length z.out z.c ∧ z.out.length ≤ max x.length y.length + 1) (fun σ z => max x.length y.length + 1 - z.out.length) .auto))) .auto)))
def Sv : List AV → Option (List zN × AV)
 | [x_x, x_y, .fn (.func 207) 0 fa_ 0 fc_] => some ([.b (za Int x_x), .b (za Int x_y), .p (Zv 1000000000 (zv x_x)), .p (Zv 1000000000 (zv x_y)), .p ((zv x_x).length ≤ 1000000000), .p ((zv x_y).length ≤ 1000000000)], Zp (zw 1000000000 (zW 1000000000 (zv x_x) + zW 1000000000 (zv x_y)).toNat))
 | _ => none
theorem MK (x : List Int) (y : List Int) (hx : Zv 1000000000 x) (hy : Zv 1000000000 y) (hlx : x.length ≤ 1000000000) (hly : y.length ≤ 1000000000) :
 let q2 := (if (lZ y) > (lZ x) then (lZ y) else (lZ x)); let q1 := (q2 + iO); let q3 := (xI x); let q4 := (xI y); let q5 := (AV.fn (Fn.func (207 : FuncId)) 0 (fun (x : Nat) => AV.junk) 0 fun (x : Nat) => AV.junk); let q6 := (kI ∧ q2 + iO = q2 + iO); let q7 := (zv q3); let q9 := (zv q4); let q12 := (zw 1000000000
 (Int.toNat (zW iB x + zW iB y))); zB [xI x, xI y, AV.fn (Fn.func (207 : FuncId)) 0 (fun (x : Nat) => AV.junk) 0 fun (x : Nat) => AV.junk] → bF (dK q1) ((∃ (z : ZU), ((Wo iB x y (lN (ZU.out z)) (ZU.out z) (ZU.c z) ∧ lN (ZU.out z) ≤ max (lN x) (lN y) + 1) ∧ zc q3 q3 ∧ zc q4 q4 ∧ zc q5 q5 ∧ q6 ∧ (some (xf Nat) = some
 (xf Nat) ∧ 0 = 0 ∧ lN (ZU.out z) = 0) ∧ (kI ∧ iZ = ZU.c z) ∧ kI ∧ iZ = (lZ (ZU.out z))) ∧ lN (ZU.out z) = 0) ∧ ∀ (z : ZU), let q8 := (Int.toNat (lZ (ZU.out z))); let q10 := (gD q7 q8 iZ + gD q9 q8 iZ + ZU.c z); let q11 := (AV.xl false 1 (lN (ZU.out z)) fun i j => aI (gD (ZU.out z) (0 + i) iZ)); let q13 := (zm (zv q11)); Wo iB x y (lN (ZU.out z)) (ZU.out z) (ZU.c z) ∧ List.length
 (ZU.out z) ≤ max (lN x) (lN y) + 1 → zZ (zn (lZ (ZU.out z)) q1) (bF (za Int q3) (iZ ≤ (lZ (ZU.out z)) ∧ bF (za Int q4) (iZ ≤ (lZ (ZU.out z)) ∧ (iZ ≤ gD q7 q8 iZ ∧ gD q7 q8 iZ ≤ (999999999 : Int)) ∧ (iZ ≤ gD q9 q8 iZ ∧ gD q9 q8 iZ ≤ (999999999 : Int)) ∧ (iZ ≤ ZU.c z ∧ ZU.c z ≤ (999999999 : Int)) ∧ bF (DB.db ((lN (ZU.out z) + 1) * 8 ≤ 140737488355328)) (bF (dK ((cI (List.length
 (ZU.out z))) + iO)) (∃ (z' : ZU), (((Wo iB x y (lN (ZU.out z')) (ZU.out z') (ZU.c z') ∧ lN (ZU.out z') ≤ max (lN x) (lN y) + 1) ∧ max (lN x) (lN y) + 1 - lN (ZU.out z') < max (lN x) (lN y) + 1 - lN (ZU.out z)) ∧ zc q3 q3 ∧ zc q4 q4 ∧ zc q5 q5 ∧ q6 ∧ (nat_lit 0 = 0 ∧ 0 = 0 ∧ lN (ZU.out z') = lN (ZU.out z) + 1) ∧ (kI ∧ Int.tdiv q10 iB = ZU.c z') ∧ kI ∧ (lZ (ZU.out z)) + iO
 = (lZ (ZU.out z'))) ∧ (3 : TypeId) = 3 ∧ 1 = 1 ∧ lN (ZU.out z') = lN (ZU.out z) + 1 ∧ ∀ (i j : Nat), i < lN (ZU.out z) + 1 → j < 1 → zc (if i < lN (ZU.out z) then aI (gD (ZU.out z) i iZ) else Sx.rowAt [fun (x_1 : Nat) => aI (Int.tmod q10 iB)] (i - lN (ZU.out z)) j) (aI (gD (ZU.out z') i iZ))))))) (bF (za Int q11) ((false = true → false = true) ∧ 1 = 1 ∧ lN q12 = lN q13 ∧ ∀ (i j
 : Nat), i < lN q13 → j < 1 → kI ∧ gD q13 i zp.dflt = gD q12 i zp.dflt))) := by
 delta bF dK xI cI kI lZ lN gD iZ iO iB aI
 dsimp only
 intro hb
 have e0 : (zp.dflt : Int) = 0 := rfl
 simp only [↓ZK, ↓ZT, row_one]
 simp only [sS, dS, e0]
 have em : (if (y.length : Int) > (x.length : Int) then (y.length : Int) else (x.length : Int)) = ((max x.length y.length : Nat) : Int) := by split <;> omega
 rw [em]
 have hm : max x.length y.length ≤ 1000000000 := by omega
 have hm1 : x.length ≤ max x.length y.length := by omega
 have hm2 : y.length ≤ max x.length y.length := by omega
 generalize max x.length y.length = m at *
 refine ⟨⟨by omega, by omega⟩, ⟨⟨[], 0⟩, ⟨⟨.zero _ _ _, by simp⟩, rfl, rfl, rfl⟩, rfl⟩, fun z ⟨z1, z2⟩ => ⟨fun hz => ?_, fun hz => ?_⟩⟩
 ·have g1 := hx.get (by omega) z.out.length
  have g2 := hy.get (by omega) z.out.length
  have c0 := z1.c0
  have c1 := z1.c1
  have hs := Wo.step (by omega) hx hy z1
  exact ⟨by omega, by omega, ⟨by omega, by omega⟩, ⟨by omega, by omega⟩, ⟨by omega, by omega⟩, by omega, ⟨by omega, by omega⟩, ⟨z.out ++ [(x.getD z.out.length 0 + y.getD z.out.length 0 + z.c).tmod 1000000000], (x.getD z.out.length 0 + y.getD z.out.length 0 + z.c).tdiv 1000000000⟩, ⟨⟨⟨by simp only [List.length_append, List.length_singleton]; exact hs, by simp; omega⟩, by simp; omega⟩, by simp, rfl, by simp⟩, by simp, fun i j => uL _ _ i j⟩
 ·have he := z1.end_ (b := 1000000000) (by omega) hx hy (by omega) (by omega)
  rw [he]
  exact ⟨fun h => h, rfl, fun _ _ _ _ => rfl⟩
theorem Kw (x : List Int) (y : List Int) (hx : Zv 1000000000 x) (hy : Zv 1000000000 y) (hlx : x.length ≤ 1000000000) (hly : y.length ≤ 1000000000) : zS Tryz.prog [] 206 [Zp x, Zp y, Kh 207] (Zp (zw 1000000000 (zW 1000000000 x + zW 1000000000 y).toNat)) :=
 zV (T := gb) (an := m9 x y) mixed uu (Eq.mp (by kernel_rfl) (MK x y hx hy hlx hly))
theorem KQ : zQ Tryz.prog [] 206 Sv := by
 intro xs ps r h hp
 unfold Sv at h
 split at h
 ·skip
  rename_i x_x x_y fa_ fc_
  cases h
  obtain ⟨q0, q1, q2, q3, q4, q5, -⟩ := Zx hp
  exact weaken (ys := [Zp (zv x_x), Zp (zv x_y), Kh 207]) ⟨zi q0, zi q1, ⟨rfl, rfl, rfl, Xw, Xw⟩, trivial⟩ (Kw (zv x_x) (zv x_y) q2 q3 q4 q5)
 ·cases h
def MR (x y : List Int) : yW :=
 .two .auto (.two .auto (.two .auto (.two (.two .auto (.one (.loop ZU (fun σ z => [(0, σ.tm 0), (1, σ.tm 1), (2, σ.tm 2), (17, σ.tm 17), (7, .ns σ.nb 0 z.out.length), (8, .i z.c), (18, .i (z.out.length : Int))]) (fun σ z => [(σ.nb, w8 z.out)]) 1 (fun σ z => wd 1000000000 x y z.out.length z.out z.c ∧ z.out.length ≤ max x.length y.length + 1) (fun σ z => max x.length y.length + 1 - z.out.length) .auto))) .auto)))
def Sj : List AV → Option (List zN × AV)
 | [x_x, x_y, .fn (.func 209) 0 fa_ 0 fc_] => some ([.b (za Int x_x), .b (za Int x_y), .p (Zv 1000000000 (zv x_x)), .p (Zv 1000000000 (zv x_y)), .p ((zv x_x).length ≤ 1000000000), .p ((zv x_y).length ≤ 1000000000), .p (zW 1000000000 (zv x_y) ≤ zW 1000000000 (zv x_x))], Zp (zw 1000000000 (zW 1000000000 (zv x_x) - zW 1000000000 (zv x_y)).toNat))
 | _ => none
theorem LM (x : List Int) (y : List Int) (hx : Zv 1000000000 x) (hy : Zv 1000000000 y) (hlx : x.length ≤ 1000000000) (hly : y.length ≤ 1000000000) (hle : zW 1000000000 y ≤ zW 1000000000 x) :
 let q2 := (if (lZ y) > (lZ x) then (lZ y) else (lZ x)); let q1 := (q2 + iO); let q3 := (xI x); let q4 := (xI y); let q5 := (AV.fn (Fn.func (209 : FuncId)) 0 (fun (x : Nat) => AV.junk) 0 fun (x : Nat) => AV.junk); let q6 := (kI ∧ q2 + iO = q2 + iO); let q7 := (zv q3); let q9 := (zv q4); let q12 := (zw 1000000000
 (Int.toNat (zW iB x - zW iB y))); zB [xI x, xI y, AV.fn (Fn.func (209 : FuncId)) 0 (fun (x : Nat) => AV.junk) 0 fun (x : Nat) => AV.junk] → bF (dK q1) ((∃ (z : ZU), ((wd iB x y (lN (ZU.out z)) (ZU.out z) (ZU.c z) ∧ lN (ZU.out z) ≤ max (lN x) (lN y) + 1) ∧ zc q3 q3 ∧ zc q4 q4 ∧ zc q5 q5 ∧ q6 ∧ (some (xf Nat) = some
 (xf Nat) ∧ 0 = 0 ∧ lN (ZU.out z) = 0) ∧ (kI ∧ iZ = ZU.c z) ∧ kI ∧ iZ = (lZ (ZU.out z))) ∧ lN (ZU.out z) = 0) ∧ ∀ (z : ZU), let q8 := (Int.toNat (lZ (ZU.out z))); let q10 := (gD q7 q8 iZ - gD q9 q8 iZ - ZU.c z); let q11 := (AV.xl false 1 (lN (ZU.out z)) fun i j => aI (gD (ZU.out z) (0 + i) iZ)); let q13 := (zm (zv q11)); wd iB x y (lN (ZU.out z)) (ZU.out z) (ZU.c z) ∧ List.length
 (ZU.out z) ≤ max (lN x) (lN y) + 1 → zZ (zn (lZ (ZU.out z)) q1) (bF (za Int q3) (iZ ≤ (lZ (ZU.out z)) ∧ bF (za Int q4) (iZ ≤ (lZ (ZU.out z)) ∧ (iZ ≤ gD q7 q8 iZ ∧ gD q7 q8 iZ ≤ (999999999 : Int)) ∧ (iZ ≤ gD q9 q8 iZ ∧ gD q9 q8 iZ ≤ (999999999 : Int)) ∧ (iZ ≤ ZU.c z ∧ ZU.c z ≤ (999999999 : Int)) ∧ bF (DB.db ((lN (ZU.out z) + 1) * 8 ≤ 140737488355328)) (bF (dK ((cI (List.length
 (ZU.out z))) + iO)) (∃ (z' : ZU), (((wd iB x y (lN (ZU.out z')) (ZU.out z') (ZU.c z') ∧ lN (ZU.out z') ≤ max (lN x) (lN y) + 1) ∧ max (lN x) (lN y) + 1 - lN (ZU.out z') < max (lN x) (lN y) + 1 - lN (ZU.out z)) ∧ zc q3 q3 ∧ zc q4 q4 ∧ zc q5 q5 ∧ q6 ∧ (nat_lit 0 = 0 ∧ 0 = 0 ∧ lN (ZU.out z') = lN (ZU.out z) + 1) ∧ (kI ∧ (bif zn q10 iZ then iO else iZ) = ZU.c z') ∧ kI ∧ (lZ (ZU.out
 z)) + iO = (lZ (ZU.out z'))) ∧ (3 : TypeId) = 3 ∧ 1 = 1 ∧ lN (ZU.out z') = lN (ZU.out z) + 1 ∧ ∀ (i j : Nat), i < lN (ZU.out z) + 1 → j < 1 → zc (if i < lN (ZU.out z) then aI (gD (ZU.out z) i iZ) else Sx.rowAt [fun (x_1 : Nat) => aI (bif zn q10 iZ then gD q7 q8 iZ - gD q9 q8 iZ - ZU.c z + iB else gD q7 q8 iZ - gD q9 q8 iZ - ZU.c z)] (i - lN (ZU.out z)) j) (AV.v (Value.int .i64
 (gD (ZU.out z') i iZ)))))))) (bF (za Int q11) ((false = true → false = true) ∧ 1 = 1 ∧ lN q12 = lN q13 ∧ ∀ (i j : Nat), i < lN q13 → j < 1 → kI ∧ gD q13 i zp.dflt = gD q12 i zp.dflt))) := by
 delta bF dK xI cI kI lZ lN gD iZ iO iB aI
 dsimp only
 intro hb
 have e0 : (zp.dflt : Int) = 0 := rfl
 simp only [↓ZK, ↓ZT, row_one]
 simp only [sS, dS, e0]
 have em : (if (y.length : Int) > (x.length : Int) then (y.length : Int) else (x.length : Int)) = ((max x.length y.length : Nat) : Int) := by split <;> omega
 rw [em]
 have hm : max x.length y.length ≤ 1000000000 := by omega
 have hm1 : x.length ≤ max x.length y.length := by omega
 have hm2 : y.length ≤ max x.length y.length := by omega
 generalize max x.length y.length = m at *
 refine ⟨⟨by omega, by omega⟩, ⟨⟨[], 0⟩, ⟨⟨.zero _ _ _, by simp⟩, rfl, rfl, rfl⟩, rfl⟩, fun z ⟨z1, z2⟩ => ⟨fun hz => ?_, fun hz => ?_⟩⟩
 ·have g1 := hx.get (by omega) z.out.length
  have g2 := hy.get (by omega) z.out.length
  have c0 := z1.c0
  have c1 := z1.c1
  have hs := wd.step (by omega) hx hy z1
  refine ⟨by omega, by omega, ⟨by omega, by omega⟩, ⟨by omega, by omega⟩, ⟨by omega, by omega⟩, by omega, ⟨by omega, by omega⟩, ?_⟩
  by_cases hn : x.getD z.out.length 0 - y.getD z.out.length 0 - z.c < 0
  ·rw [show zn (x.getD z.out.length 0 - y.getD z.out.length 0 - z.c) 0 = true from (zq _ _).2 hn]
   exact ⟨⟨_, 1⟩, ⟨⟨⟨by simpa using hs.2 hn, by simp; omega⟩, by simp; omega⟩, by simp, rfl, by simp⟩, by simp, fun i j => uL _ _ i j⟩
  ·rw [show zn (x.getD z.out.length 0 - y.getD z.out.length 0 - z.c) 0 = false by rw [Bool.eq_false_iff, Ne, zq]; exact hn]
   exact ⟨⟨_, 0⟩, ⟨⟨⟨by simpa using hs.1 (by omega), by simp; omega⟩, by simp; omega⟩, by simp, rfl, by simp⟩, by simp, fun i j => uL _ _ i j⟩
 ·have he := z1.end_ (b := 1000000000) (by omega) (by omega) (by omega) hle
  rw [he]
  exact ⟨fun h => h, rfl, fun _ _ _ _ => rfl⟩
theorem ku (x : List Int) (y : List Int) (hx : Zv 1000000000 x) (hy : Zv 1000000000 y) (hlx : x.length ≤ 1000000000) (hly : y.length ≤ 1000000000) (hle : zW 1000000000 y ≤ zW 1000000000 x) : zS Tryz.prog [] 206 [Zp x, Zp y, Kh 209] (Zp (zw 1000000000 (zW 1000000000 x - zW 1000000000 y).toNat)) :=
 zV (T := gb) (an := MR x y) mixed uu (Eq.mp (by kernel_rfl) (LM x y hx hy hlx hly hle))
theorem L1 : zQ Tryz.prog [] 206 Sj := by
 intro xs ps r h hp
 unfold Sj at h
 split at h
 ·skip
  rename_i x_x x_y fa_ fc_
  cases h
  obtain ⟨q0, q1, q2, q3, q4, q5, q6, -⟩ := Zx hp
  exact weaken (ys := [Zp (zv x_x), Zp (zv x_y), Kh 209]) ⟨zi q0, zi q1, ⟨rfl, rfl, rfl, Xw, Xw⟩, trivial⟩ (ku (zv x_x) (zv x_y) q2 q3 q4 q5 q6)
 ·cases h
end Go.Te

namespace Go.Te
open Go Go.Sx Go.Proofs Go.Ar
set_option maxRecDepth 100000
set_option maxHeartbeats 4000000
noncomputable def G8 : Tb := T0.body Tryz.prog [(239, .auto)]
theorem Oj : zY Tryz.prog G8 := zY.body mixed zr _
def LE (x y : List Int) : yW :=
 .two .auto (.one (.loop Nat (fun σ z => [(0, σ.tm 0), (1, σ.tm 1), (3, .i ((z : Int) - 1))]) (fun _ z => []) 0
  (fun _ z => z ≤ x.length ∧ ∀ i, z ≤ i → i < x.length → x.getD i 0 = y.getD i 0) (fun _ z => z) .auto))
def Kl (x y : List Int) : yW :=
 .two .auto (.two .auto (.two (.two .auto (.one (.range (LE x y) .auto .auto))) .auto))
def SQ : List AV → Option (List zN × AV)
 | [x_x, x_y] => some ([.b (za Int x_x), .b (za Int x_y), .p (Zv 1000000000 (zv x_x)), .p (Zv 1000000000 (zv x_y))], .i (cmpL (zv x_x) (zv x_y)))
 | _ => none
theorem Kj (x : List Int) (y : List Int) (hx : Zv 1000000000 x) (hy : Zv 1000000000 y) :
 let q2 := (xI y); let q3 := (xI x); let q1 := (((57 = 57 ∧ 1 = 1 ∧ zc q2 q2) ∧ 3 = 3 ∧ 1 = 1 ∧ kI ∧ iZ = iZ) ∧ 57 = 57 ∧ 1 = 1 ∧ zc q3 q3); zB [xI x, xI y] → zZ ((lZ x) != (lZ y)) (bF (DB.db
 (YZ .i64 ((lZ x) - (lZ y)))) (kI ∧ (lZ x) - (lZ y) = cmpL x y)) (bF (dK ((lZ x) - iO)) ((∃ (z : Nat), ((z ≤ lN x ∧ ∀ (i : Nat), z ≤ i → i < lN x → gD x i iZ = gD y i iZ) ∧ nat_lit 3 = 3 ∧ (nat_lit 2 = 2 ∧ 0 = 0) ∧ kI ∧ (lZ x) - iO = (cI z) - iO) ∧ q1 ∧ lR) ∧ ∀ (z : Nat), let q4 := (DB.db (iZ ≤ (cI z)
 - iO ∧ (cI z) - iO < (lZ y))); (z ≤ lN x ∧ ∀ (i : Nat), z ≤ i → i < lN x → gD x i iZ = gD y i iZ) → zZ (leB iZ ((cI z) - iO)) (bF (DB.db (iZ ≤ (cI z) - iO ∧ (cI z) - iO < (lZ x))) (zZ q4 (zZ (gD x (Int.toNat ((cI z) - iO)) zp.dflt != gD y (Int.toNat ((cI z) - iO)) zp.dflt) (bF q4 (bF (dK (gD x (Int.toNat ((cI z) - iO)) zp.dflt - gD y (Int.toNat ((↑z :
 Int) - iO)) zp.dflt)) (kI ∧ gD x (Int.toNat ((cI z) - iO)) zp.dflt - gD y (Int.toNat ((cI z) - iO)) zp.dflt = cmpL x y))) (bF (dK ((cI z) - iO - iO)) (∃ (z' : Nat), (((z' ≤ lN x ∧ ∀ (i : Nat), z' ≤ i → i < lN x → gD x i iZ = gD y i iZ) ∧ z' < z) ∧ nat_lit 3 = 3 ∧ (nat_lit 2 = 2 ∧ 0 = 0) ∧ kI ∧ (cI z) - iO - iO = (cI z') - iO) ∧ q1 ∧ lR)))
 False)) (kI ∧ iZ = cmpL x y))) := by
 delta bF dK xI lR cI kI lZ lN gD iZ iO
 dsimp only
 intro hb
 have e0 : (zp.dflt : Int) = 0 := rfl
 simp only [↓ZK, ↓ZT, row_one]
 simp only [sS, dS, e0]
 simp only [wT]
 have hx1 : x.length ≤ 9223372036854775807 := hb.1.1
 have hy1 : y.length ≤ 9223372036854775807 := hb.2.1
 refine ⟨fun hne => ⟨⟨by omega, by omega⟩, ?_⟩, fun heq => ⟨⟨by omega, by omega⟩, ⟨x.length, ⟨Nat.le_refl _, fun i h1 h2 => by omega⟩, rfl⟩, fun z ⟨h1, h2⟩ => ⟨fun hz => ?_, fun hz => ?_⟩⟩⟩
 ·exact (oU (fun e => hne (by omega))).symm
 ·have hd : Ar.cmpL x y = vz x y z := by rw [cmpL_eq (by omega), X3 h1 h2]
  have hd2 : vz x y z = bif x.getD (z - 1) 0 != y.getD (z - 1) 0 then x.getD (z - 1) 0 - y.getD (z - 1) 0 else vz x y (z - 1) := by
   conv => lhs; rw [show z = z - 1 + 1 by omega]
   rfl
  have g1 := hx.get (by omega) (z - 1)
  have g2 := hy.get (by omega) (z - 1)
  refine ⟨⟨by omega, by omega⟩, ⟨by omega, by omega⟩, fun h => ⟨⟨by omega, by omega⟩, ⟨by omega, by omega⟩, ?_⟩, fun h => ⟨⟨by omega, by omega⟩, z - 1, ⟨⟨by omega, fun i h4 h5 => ?_⟩, by omega⟩, by omega⟩⟩
  ·rw [hd, hd2, bne_iff_ne.2 h]; rfl
  ·by_cases e : i = z - 1
   ·rw [e]; exact h
   ·exact h2 i (by omega) h5
 ·rw [cmpL_eq (by omega), X3 h1 h2, show z = 0 by omega]; rfl
theorem iz (x : List Int) (y : List Int) (hx : Zv 1000000000 x) (hy : Zv 1000000000 y) : zS Tryz.prog [] 208 [Zp x, Zp y] (.i (cmpL x y)) :=
 zV (T := G8) (an := Kl x y) mixed Oj (Eq.mp (by kernel_rfl) (Kj x y hx hy))
theorem lS : zQ Tryz.prog [] 208 SQ := by
 intro xs ps r h hp
 unfold SQ at h
 split at h
 ·skip
  rename_i x_x x_y
  cases h
  obtain ⟨q0, q1, q2, q3, -⟩ := Zx hp
  exact weaken (ys := [Zp (zv x_x), Zp (zv x_y)]) ⟨zi q0, zi q1, trivial⟩ (iz (zv x_x) (zv x_y) q2 q3)
 ·cases h
def T2 (x y : List Int) : yW :=
 .two .auto (.two .auto (.two (.two .auto (.one (.loop Zd (fun σ z => [(1, σ.tm 1), (5, σ.tm 5), (18, σ.tm 18), (19, σ.tm 19), (20, .i (z.i : Int))]) (fun σ z => [(Yx (σ.tm 5), w8 z.out)]) 0 (fun σ z => XJ 1000000000 x y z.i z.out ∧ z.i ≤ x.length) (fun σ z => x.length - z.i) (.two .auto (.two .auto (.two (.one (.two .auto (.two .auto (.two .auto (.one (.loop ZI (fun σ z => [(1, σ.tm 1), (5, σ.tm 5), (6, σ.tm 6), (7, σ.tm 7), (18, σ.tm 18), (19, σ.tm 19), (20, σ.tm 20), (27, σ.tm 27), (8, .i z.c), (28, .i (z.k : Int))]) (fun σ z => [(Yx (σ.tm 5), w8 z.out)]) 0 (fun σ z => MulK 1000000000 x y (AV.int (σ.tm 6)).toNat z.k z.out z.c ∧ z.k ≤ y.length + 1 ∧ (z.k = y.length + 1 → z.c = 0)) (fun σ z => y.length + 1 - z.k) .auto)))))) .auto)))))) .auto))
def U4 : List AV → Option (List zN × AV)
 | [x_x, x_y] => some ([.b (za Int x_x), .b (za Int x_y), .p (Zv 1000000000 (zv x_x)), .p (Zv 1000000000 (zv x_y)), .p ((zv x_x).length ≤ 1000000000), .p ((zv x_y).length ≤ 1000000000)], Zp (zw 1000000000 (zW 1000000000 (zv x_x) * zW 1000000000 (zv x_y)).toNat))
 | _ => none
theorem OH (x : List Int) (y : List Int) (hx : Zv 1000000000 x) (hy : Zv 1000000000 y) (hlx : x.length ≤ 1000000000) (hly : y.length ≤ 1000000000) :
 let q1 := ((lZ x) + (lZ y) + iO); let q2 := (xI y); let q3 := (nat_lit 0 = 0 ∧ 0 = 0 ∧ Int.toNat q1 = Int.toNat q1); let q4 := (xI x); let q5 := (kI ∧ (lZ x) = (lZ x)); let q9 := (kI ∧ (lZ y) + iO = (lZ y) + iO); let q13 := (Int.toNat q1); let q14 := (zv q2); let q18 :=
 (zw 1000000000 (Int.toNat (zW iB x * zW iB y))); zB [xI x, xI y] → bF (dK ((lZ x) + (lZ y))) (bF (dK q1) (bF (DB.db (iZ ≤ (lZ x) + (lZ y) + iO ∧ (lZ x) + (lZ y) + iO ≤ (lZ x) + (lZ y) + (1
 : Int) ∧ (↑8 : Int) * q1 ≤ (140737488355328 : Int))) ((∃ (z : Zd), ((XJ iB x y (Zd.i z) (Zd.out z) ∧ Zd.i z ≤ lN x) ∧ zc q2 q2 ∧ q3 ∧ zc q4 q4 ∧ q5 ∧ kI ∧ iZ = (cI (Zd.i z))) ∧ (3 : TypeId) = 3 ∧ 1 = 1 ∧ lN (Zd.out z) = Int.toNat q1 ∧ ∀ (i j : Nat), i < Int.toNat q1 → j < 1 → zc (Zf (Value.int .i64 iZ) j) (aI (gD (Zd.out z) i iZ))) ∧ ∀ (z : Zd), let q6 := (Int.toNat (AV.int (aI (cI (Zd.i z))))); let q7 := (kI ∧ (cI (Zd.i z)) = (cI (Zd.i
 z))); let q8 := (kI ∧ gD x (Int.toNat (cI (Zd.i z))) zp.dflt = gD x (Int.toNat (cI (Zd.i z))) zp.dflt); let q17 := (AV.xl false 1 q13 fun i j => aI (gD (Zd.out z) (0 + i) iZ)); let q19 := (zm (zv q17)); XJ iB x y (Zd.i z) (Zd.out z) ∧ Zd.i z ≤ lN x → zZ (zn (cI (Zd.i z)) (lZ x)) (bF (DB.db (iZ ≤ (cI (Zd.i z)) ∧ (cI (Zd.i z)) < (lZ x))) (bF (dK ((lZ y) + iO)) ((∃ (z_1 :
 ZI), ((MulK iB x y q6 (ZI.k z_1) (ZI.out z_1) (ZI.c z_1) ∧ ZI.k z_1 ≤ lN y + 1 ∧ (ZI.k z_1 = lN y + 1 → ZI.c z_1 = iZ)) ∧ zc q2 q2 ∧ q3 ∧ q7 ∧ q8 ∧ zc q4 q4 ∧ q5 ∧ q7 ∧ q9 ∧ (kI ∧ iZ = ZI.c z_1) ∧ kI ∧ iZ = (cI (ZI.k z_1))) ∧ 3 = 3 ∧ 1 = 1 ∧ lN (ZI.out z_1) = lN (Zd.out z) ∧ ∀ (i j : Nat), i < lN (Zd.out z) → j < 1 → kI ∧ gD (Zd.out z) i iZ = gD (ZI.out z_1) i iZ) ∧ ∀ (z_1 : ZI), let q11 := ((cI (Zd.i z)) +
 (cI (ZI.k z_1))); let q10 := (dK q11); let q12 := (DB.db (iZ ≤ (cI (Zd.i z)) + (cI (ZI.k z_1)) ∧ (cI (Zd.i z)) + (cI (ZI.k z_1)) < (cI q13))); let q15 := (0 + Int.toNat q11); let q16 := (gD (ZI.out z_1) q15 iZ + gD x (Int.toNat (cI (Zd.i z))) zp.dflt * gD q14 (Int.toNat (cI (ZI.k z_1))) iZ + ZI.c z_1); MulK iB x y q6 (ZI.k z_1) (ZI.out z_1) (ZI.c z_1) ∧ ZI.k z_1 ≤ lN y + 1 ∧ (ZI.k z_1 = lN y + 1 → ZI.c z_1 = iZ) → zZ (zn (cI (ZI.k z_1))
 ((lZ y) + iO)) (bF q10 (bF q12 (bF (za Int q2) (iZ ≤ (cI (ZI.k z_1)) ∧ bF (dK (gD x (Int.toNat (cI (Zd.i z))) zp.dflt * gD q14 (Int.toNat (cI (ZI.k z_1))) iZ)) (bF (dK (gD (ZI.out z_1) q15 iZ + gD x (Int.toNat (cI (Zd.i z))) zp.dflt * gD q14 (Int.toNat (cI (ZI.k z_1))) iZ)) (bF (dK q16) (bF q10 (bF (dK (Int.tdiv q16 iB)) (bF q12 (bF (dK ((↑(ZI.k z_1) :
 Int) + iO)) (∃ (z' : ZI), (((MulK iB x y q6 (ZI.k z') (ZI.out z') (ZI.c z') ∧ ZI.k z' ≤ lN y + 1 ∧ (ZI.k z' = lN y + 1 → ZI.c z' = iZ)) ∧ lN y + 1 - ZI.k z' < lN y + 1 - ZI.k z_1) ∧ zc q2 q2 ∧ q3 ∧ q7 ∧ q8 ∧ zc q4 q4 ∧ q5 ∧ q7 ∧ q9 ∧ (kI ∧ Int.tdiv q16 iB = ZI.c z') ∧ kI ∧ (cI (ZI.k z_1)) + iO = (cI (ZI.k z'))) ∧ 3 = 3 ∧ 1 = 1 ∧ lN (ZI.out z') = lN (ZI.out z_1) ∧ ∀ (i j : Nat), i < lN (ZI.out z_1) → j < 1 → zc (if i = 0 +
 Int.toNat q11 ∧ 0 ≤ j ∧ j < 1 then aI (Int.tmod q16 iB) else aI (gD (ZI.out z_1) i iZ)) (aI (gD (ZI.out z') i iZ))))))))))))) (bF (dK ((cI (Zd.i z)) + iO)) (∃ (z' : Zd), (((XJ iB x y (Zd.i z') (Zd.out z') ∧ Zd.i z' ≤ lN x) ∧ lN x - Zd.i z' < lN x - Zd.i z) ∧ zc q2 q2 ∧ q3 ∧ zc q4 q4 ∧ q5 ∧ kI ∧ (cI (Zd.i z)) + iO = (cI (Zd.i
 z'))) ∧ 3 = 3 ∧ 1 = 1 ∧ lN (Zd.out z') = lN (ZI.out z_1) ∧ ∀ (i j : Nat), i < lN (ZI.out z_1) → j < 1 → kI ∧ gD (ZI.out z_1) i iZ = gD (Zd.out z') i iZ))))) (bF (za Int q17) ((false = true → false = true) ∧ 1 = 1 ∧ lN q18 = lN q19 ∧ ∀ (i j : Nat), i < lN q19 → j < 1 → kI ∧ gD q19 i zp.dflt = gD q18 i zp.dflt))))) := by
 delta bF dK xI cI kI lZ lN gD iZ iO iB aI
 dsimp only
 intro hb
 have e0 : (zp.dflt : Int) = 0 := rfl
 simp only [↓ZK, ↓ZT, row_one]
 simp only [sS, dS, e0]
 have en : ((x.length : Int) + (y.length : Int) + 1).toNat = x.length + y.length + 1 := by omega
 rw [en]
 refine ⟨⟨by omega, by omega⟩, ⟨by omega, by omega⟩, ⟨by omega, Int.le_refl _, by omega⟩, ⟨⟨0, List.replicate (x.length + y.length + 1) 0⟩, ⟨⟨.zero_ (by omega) _ _, Nat.zero_le _⟩, rfl⟩, by simp, fun i j _ hj => wB _ i j hj⟩, fun z ⟨z1, z2⟩ => ⟨fun hz => ⟨⟨by omega, hz⟩, ⟨by omega, by omega⟩, ⟨⟨0, 0, z.out⟩, ⟨⟨z1.start (by omega), Nat.zero_le _, fun h => rfl⟩, rfl, rfl⟩, rfl, fun _ _ _ _ => rfl⟩, fun w ⟨w1, w2, w3⟩ => ⟨fun hk0 => ?_, fun hk0 => ?_⟩⟩, fun hz => ?_⟩⟩
 ·have hz' : z.i < x.length := by omega
  have w4 := w1.len
  have hk : w.k ≤ y.length := by omega
  have ek : ((z.i : Int) + (w.k : Int)).toNat = z.i + w.k := by omega
  rw [ek]
  obtain ⟨⟨n0, n1⟩, hs⟩ := w1.step (by omega) hx hy hz' hk
  have g1 := hx.get (by omega) z.i
  have g2 := hy.get (by omega) w.k
  have g3 := w1.in_.get (by omega) (z.i + w.k)
  have c0 := w1.c0
  have c1 := w1.c1
  have p0 : 0 ≤ x.getD z.i 0 * y.getD w.k 0 := Int.mul_nonneg g1.1 g2.1
  have d0 := hs.c0
  have d1 := hs.c1
  refine ⟨⟨by omega, by omega⟩, ⟨by omega, by omega⟩, by omega, ⟨by omega, by omega⟩, ⟨by omega, by omega⟩, ⟨by omega, by omega⟩, ⟨by omega, by omega⟩, ⟨by omega, by omega⟩, ⟨by omega, by omega⟩, ⟨by omega, by omega⟩, ⟨w.k + 1, _, _⟩, ⟨⟨⟨hs, by simp only; omega, fun h => ?_⟩, by simp only; omega⟩, rfl, rfl⟩, by simp, fun i j _ => uG _ _ _ (by omega) i j⟩
  have hk' : w.k = y.length := by simp only at h; omega
  have := (hk' ▸ w1 : MulK 1000000000 x y z.i y.length w.out w.c).last (by omega)
  rw [← hk'] at this
  exact this
 ·have c0 := w1.c0
  have hc := w3 (by omega)
  exact ⟨⟨by omega, by omega⟩, ⟨z.i + 1, w.out⟩, ⟨⟨⟨w1.fin (by omega) w2 hc, by simp only; omega⟩, by simp only; omega⟩, rfl⟩, rfl, fun _ _ _ _ => rfl⟩
 ·have hz' : z.i = x.length := by omega
  have he := (hz' ▸ z1 : XJ 1000000000 x y x.length z.out).end_ (b := 1000000000) (by omega)
  rw [← z1.len]
  simp only [sS, dS, e0]
  rw [he]
  exact ⟨fun h => h, rfl, fun _ _ _ _ => rfl⟩
theorem NL (x : List Int) (y : List Int) (hx : Zv 1000000000 x) (hy : Zv 1000000000 y) (hlx : x.length ≤ 1000000000) (hly : y.length ≤ 1000000000) : zS Tryz.prog [] 203 [Zp x, Zp y] (Zp (zw 1000000000 (zW 1000000000 x * zW 1000000000 y).toNat)) :=
 zV (T := gb) (an := T2 x y) mixed uu (Eq.mp (by kernel_rfl) (OH x y hx hy hlx hly))
theorem No : zQ Tryz.prog [] 203 U4 := by
 intro xs ps r h hp
 unfold U4 at h
 split at h
 ·skip
  rename_i x_x x_y
  cases h
  obtain ⟨q0, q1, q2, q3, q4, q5, -⟩ := Zx hp
  exact weaken (ys := [Zp (zv x_x), Zp (zv x_y)]) ⟨zi q0, zi q1, trivial⟩ (NL (zv x_x) (zv x_y) q2 q3 q4 q5)
 ·cases h
end Go.Te
