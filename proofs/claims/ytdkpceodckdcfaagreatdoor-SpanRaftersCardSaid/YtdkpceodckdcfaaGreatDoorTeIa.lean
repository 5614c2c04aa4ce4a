/- integer: contracts of the small functions. -/
import Derived.Test.YtdkpceodckdcfaaGreatDoorTeJ
import Derived.Test.YtdkpceodckdcfaaGreatDoorArI
set_option linter.unusedSimpArgs false
set_option linter.unusedVariables false
namespace Go.Te
open Go Go.Sx Go.Proofs Go.Ar Go.Lib
set_option maxRecDepth 100000
set_option maxHeartbeats 4000000
theorem allB_zero {p : Nat → Prop} : allB p 0 := trivial
theorem getD_takeN {l : List Int} {z i : Nat} (h : i < z) : (l.take z).getD i 0 = l.getD i 0 := by
 rw [List.getD_eq_getElem?_getD, List.getElem?_take, if_pos h, ← List.getD_eq_getElem?_getD]
def itrim_an (l : List Int) : Ann :=
 .two .auto (.two (.one (.loop Nat (fun σ z => [(0, slE (l.take z))]) (fun σ z => []) 0 (fun σ z => z ≤ l.length ∧ ∀ i, z ≤ i → l.getD i 0 = 0) (fun σ z => z) .auto)) .auto)
def itrim_t : List AV → Option (List Cond × AV)
 | [x_l] => some ([.b (slOk Int x_l)], slE (trimL (intsOf x_l)))
 | _ => none
theorem itrim_vc (l : List Int) :
 bndL [AV.xl false 1 (lN l) fun i j => aI (gD l i Enc.dflt)] → (∃ (z : Nat), ((z ≤ lN l ∧ ∀ (i : Nat), z ≤ i → gD l i iZ = iZ) ∧ (false = true → false = true) ∧ 1 = 1 ∧ lN (List.take z l) = lN l ∧ ∀ (i j : Nat), i < lN l → j < 1 → kI ∧ gD l i Enc.dflt = gD (List.take z l) i Enc.dflt) ∧ True) ∧ ∀ (z : Nat), let q2 := (ltB iZ (lZ (List.take z l))); let q1 := (!bsel true q2 || bsel true q2); let q4 := ((lZ (List.take z l)) - iO);
 let q3 := (inK .i64 q4); (z ≤ lN l ∧ ∀ (i : Nat), z ≤ i → gD l i iZ = iZ) → bsplit q1 (bsplit q1 (bsplit (!bsel true q2 || DB.db q3) (bsplit q1 (bsplit q1 (bsplit (!bsel true q2 || DB.db (iZ ≤ (lZ (List.take z l)) - iO ∧ (lZ (List.take z l)) - iO < (lZ (List.take z l)))) (bsplit q1 (bsplit q1 (bsplit (!ltB iZ (lZ (List.take z l)) || bsel true q2) (bsplit (bif ltB iZ (lZ (List.take z l)) then gD (List.take z l) (Int.toNat q4) Enc.dflt
 == iZ else false) (bsplit (DB.db q3) (bsplit (DB.db (iZ ≤ (lZ (List.take z l)) - iO ∧ (lZ (List.take z l)) - iO ≤ (lZ (List.take z l)))) (∃ (z' : Nat), (((z' ≤ lN l ∧ ∀ (i : Nat), z' ≤ i → gD l i iZ = iZ) ∧ z' < z) ∧ (false = true → false = true) ∧ 1 = 1 ∧ lN (List.take z' l) = Int.toNat q4 ∧ ∀ (i j : Nat), i < Int.toNat q4 → j < 1 → kI ∧ gD (List.take z l) i Enc.dflt = gD (List.take z' l) i Enc.dflt) ∧ True) False) False) ((false = true → false
 = true) ∧ 1 = 1 ∧ lN (trimL l) = lN (List.take z l) ∧ ∀ (i j : Nat), i < lN (List.take z l) → j < 1 → kI ∧ gD (List.take z l) i Enc.dflt = gD (trimL l) i Enc.dflt)) False) False) False) False) False) False) False) False) False := by
 delta kI lZ lN gD iZ iO aI
 dsimp only
 intro hb
 have e0 : (Enc.dflt : Int) = 0 := rfl
 simp only [↓vc_db, ↓vc_gdb, row_one]
 simp only [sS, dS, e0, ltB_nat, pred_nat]
 have hb1 : l.length ≤ 9223372036854775807 := hb.1
 have lt : ∀ z, z ≤ l.length → (l.take z).length = z := fun z h => by rw [List.length_take]; omega
 refine ⟨⟨l.length, ⟨Nat.le_refl _, fun i hi => getD_outI hi⟩, fun h => h, lt _ (Nat.le_refl _), fun i j hi _ => (getD_takeN hi).symm⟩, fun z ⟨h1, h2⟩ => ?_⟩
 rw [lt z h1]
 refine ⟨fun hp => ?_, fun hp => ?_, bsplit_iff.2 ⟨fun c => ?_, fun c => ?_⟩⟩
 ·have := (blt_iff _ _).1 hp; exact ⟨by omega, by omega⟩
 ·have := (blt_iff _ _).1 hp; exact ⟨by omega, by omega⟩
 ·rw [Bool.and_eq_true, beq_iff_eq] at c
  have hp := (blt_iff _ _).1 c.1
  have c2 := c.2
  rw [getD_takeN (by omega)] at c2
  refine ⟨⟨by omega, by omega⟩, ⟨by omega, by omega⟩, z - 1, ⟨⟨by omega, fun i hi => ?_⟩, by omega⟩, fun h => h, lt _ (by omega), fun i j hi _ => by rw [getD_takeN (by omega), getD_takeN hi]⟩
  by_cases e : i = z - 1
  ·rw [e]; exact c2
  ·exact h2 i (by omega)
 ·have ht := trim_take h1 h2 (by
   by_cases hz : z = 0
   ·exact .inl hz
   ·refine .inr fun e => ?_
    rw [getD_takeN (by omega), e, (blt_iff _ _).2 (by omega)] at c
    cases c)
  rw [ht]
  exact ⟨fun h => h, lt z h1, fun i j hi _ => rfl⟩
theorem itrim_C (l : List Int) : PureCall Tryz.prog [] 212 [slE l] (slE (trimL l)) :=
 pure_of_vc (T := T0) (an := itrim_an l) mixed tb0_sound (Eq.mp (by kernel_rfl) (itrim_vc l))
theorem itrim_T : PureT Tryz.prog [] 212 itrim_t := by
 intro xs ps r h hp
 unfold itrim_t at h
 split at h
 ·skip
  rename_i x_l
  cases h
  obtain ⟨q0, -⟩ := allC hp
  exact weaken (ys := [slE (intsOf x_l)]) ⟨slE_sound q0, trivial⟩ (itrim_C (intsOf x_l))
 ·cases h
def ilimb_t : List AV → Option (List Cond × AV)
 | [x_l, .v (.int .i64 i)] => some ([.b (slOk Int x_l), .p (0 ≤ i)], .i ((intsOf x_l).getD i.toNat 0))
 | _ => none
theorem ilimb_vc (l : List Int) (i : Int) (h0 : 0 ≤ i) :
 bndL [AV.xl false 1 (lN l) fun i j => aI (gD l i Enc.dflt), aI i] → bsplit (ltB i (lZ l)) (bsplit (DB.db (iZ ≤ i ∧ i < (lZ l))) (kI ∧ gD l (Int.toNat i) Enc.dflt = gD l (Int.toNat i) iZ) False) (kI ∧ iZ = gD l (Int.toNat i) iZ) := by
 delta kI lZ lN gD iZ aI
 intro hb
 have e0 : (Enc.dflt : Int) = 0 := rfl
 simp only [sS, dS, e0, ltB_nat]
 exact ⟨fun h => ⟨h0, h⟩, fun h => (getD_outI (by omega)).symm⟩
theorem ilimb_C (l : List Int) (i : Int) (h0 : 0 ≤ i) : PureCall Tryz.prog [] 237 [slE l, .i i] (.i (l.getD i.toNat 0)) :=
 pure_of_vc (T := T0) (an := .auto) mixed tb0_sound (Eq.mp (by kernel_rfl) (ilimb_vc l i h0))
theorem ilimb_T : PureT Tryz.prog [] 237 ilimb_t := by
 intro xs ps r h hp
 unfold ilimb_t at h
 split at h
 ·skip
  rename_i x_l i
  cases h
  obtain ⟨q0, q1, -⟩ := allC hp
  exact weaken (ys := [slE (intsOf x_l), .i i]) ⟨slE_sound q0, avM_refl _, trivial⟩ (ilimb_C (intsOf x_l) i q1)
 ·cases h
def iplus_t : List AV → Option (List Cond × AV)
 | [.v (.int .i64 x), .v (.int .i64 y), .v (.int .i64 c)] => some ([.p (0 ≤ x ∧ x ≤ 999999999), .p (0 ≤ y ∧ y ≤ 999999999), .p (0 ≤ c ∧ c ≤ 999999999)], .tup 2 (listFn [.i ((x + y + c).tmod 1000000000), .i ((x + y + c).tdiv 1000000000)]))
 | _ => none
theorem iplus_vc (x : Int) (y : Int) (c : Int) (h1 : 0 ≤ x ∧ x ≤ 999999999) (h2 : 0 ≤ y ∧ y ≤ 999999999) (h3 : 0 ≤ c ∧ c ≤ 999999999) :
 bndL [aI x, aI y, aI c] → bsplit (DB.db (inK .i64 (x + y))) (bsplit (DB.db (inK .i64 (x + y + c))) (bsplit (DB.db (inK .i64 (x + y))) (bsplit (DB.db (inK .i64 (x + y + c))) (bsplit (DB.db (inK .i64 (Int.tdiv (x + y + c) iB))) (j2 ∧ (True ∧ kI ∧ Int.tmod (x + y + c) iB = Int.tmod (x + y + c) iB) ∧ kI ∧ Int.tdiv (x + y + c) iB = Int.tdiv (x + y + c) iB) False) False) False) False) False := by
 delta kI j2 iB aI
 intro hb
 simp only [sS, dS]
 have hd : 0 ≤ (x + y + c).tdiv 1000000000 ∧ (x + y + c).tdiv 1000000000 ≤ x + y + c := by
  rw [Int.tdiv_eq_ediv_of_nonneg (by omega)]; omega
 exact ⟨⟨by omega, by omega⟩, ⟨by omega, by omega⟩, ⟨by omega, by omega⟩, ⟨by omega, by omega⟩, ⟨by omega, by omega⟩, rfl⟩
theorem iplus_C (x : Int) (y : Int) (c : Int) (h1 : 0 ≤ x ∧ x ≤ 999999999) (h2 : 0 ≤ y ∧ y ≤ 999999999) (h3 : 0 ≤ c ∧ c ≤ 999999999) : PureCall Tryz.prog [] 207 [.i x, .i y, .i c] (.tup 2 (listFn [.i ((x + y + c).tmod 1000000000), .i ((x + y + c).tdiv 1000000000)])) :=
 pure_of_vc (T := T0) (an := .auto) mixed tb0_sound (Eq.mp (by kernel_rfl) (iplus_vc x y c h1 h2 h3))
theorem iplus_T : PureT Tryz.prog [] 207 iplus_t := by
 intro xs ps r h hp
 unfold iplus_t at h
 split at h
 ·skip
  rename_i x y c
  cases h
  obtain ⟨q0, q1, q2, -⟩ := allC hp
  exact weaken (ys := [.i x, .i y, .i c]) ⟨avM_refl _, avM_refl _, avM_refl _, trivial⟩ (iplus_C x y c q0 q1 q2)
 ·cases h
def iminus_t : List AV → Option (List Cond × AV)
 | [.v (.int .i64 x), .v (.int .i64 y), .v (.int .i64 c)] => some ([.p (0 ≤ x ∧ x ≤ 999999999), .p (0 ≤ y ∧ y ≤ 999999999), .p (0 ≤ c ∧ c ≤ 999999999)], .tup 2 (listFn [.i (bif ltB (x - y - c) 0 then x - y - c + 1000000000 else x - y - c), .i (bif ltB (x - y - c) 0 then 1 else 0)]))
 | _ => none
theorem iminus_vc (x : Int) (y : Int) (c : Int) (h1 : 0 ≤ x ∧ x ≤ 999999999) (h2 : 0 ≤ y ∧ y ≤ 999999999) (h3 : 0 ≤ c ∧ c ≤ 999999999) :
 bndL [aI x, aI y, aI c] → bsplit (DB.db (inK .i64 (x - y))) (bsplit (DB.db (inK .i64 (x - y - c))) (bsplit (leB iZ (x - y - c)) (j2 ∧ (True ∧ kI ∧ x - y - c = bif ltB (x - y - c) iZ then x - y - c + iB else x - y - c) ∧ kI ∧ iZ = bif ltB (x - y - c) iZ then iO else iZ) (bsplit (DB.db (inK .i64 (x - y))) (bsplit (DB.db (inK .i64 (x - y - c))) (bsplit (DB.db (inK .i64 (x - y - c + iB))) (2 = List.length
 [AV.junk, AV.junk] ∧ (True ∧ kI ∧ x - y - c + iB = bif ltB (x - y - c) iZ then x - y - c + iB else x - y - c) ∧ kI ∧ iO = bif ltB (x - y - c) iZ then iO else iZ) False) False) False)) False) False := by
 delta kI j2 iZ iO iB aI
 intro hb
 simp only [sS, dS]
 refine ⟨⟨by omega, by omega⟩, ⟨by omega, by omega⟩, fun h => ?_, fun h => ⟨⟨by omega, by omega⟩, ⟨by omega, by omega⟩, ⟨by omega, by omega⟩, ?_⟩⟩
 ·rw [show ltB (x - y - c) 0 = false by rw [Bool.eq_false_iff, Ne, ltB_iff]; omega]
  exact ⟨rfl, rfl, rfl⟩
 ·rw [show ltB (x - y - c) 0 = true by rw [ltB_iff]; omega]
  exact ⟨rfl, rfl, rfl⟩
theorem iminus_C (x : Int) (y : Int) (c : Int) (h1 : 0 ≤ x ∧ x ≤ 999999999) (h2 : 0 ≤ y ∧ y ≤ 999999999) (h3 : 0 ≤ c ∧ c ≤ 999999999) : PureCall Tryz.prog [] 209 [.i x, .i y, .i c] (.tup 2 (listFn [.i (bif ltB (x - y - c) 0 then x - y - c + 1000000000 else x - y - c), .i (bif ltB (x - y - c) 0 then 1 else 0)])) :=
 pure_of_vc (T := T0) (an := .auto) mixed tb0_sound (Eq.mp (by kernel_rfl) (iminus_vc x y c h1 h2 h3))
theorem iminus_T : PureT Tryz.prog [] 209 iminus_t := by
 intro xs ps r h hp
 unfold iminus_t at h
 split at h
 ·skip
  rename_i x y c
  cases h
  obtain ⟨q0, q1, q2, -⟩ := allC hp
  exact weaken (ys := [.i x, .i y, .i c]) ⟨avM_refl _, avM_refl _, avM_refl _, trivial⟩ (iminus_C x y c q0 q1 q2)
 ·cases h
noncomputable def Ti1 : Tb := (((T0.plus 212 itrim_t).plus 237 ilimb_t).plus 207 iplus_t).plus 209 iminus_t
theorem Ti1_sound : TbSound Tryz.prog Ti1 := TbSound.plus (TbSound.plus (TbSound.plus (TbSound.plus tb0_sound itrim_T) ilimb_T) iplus_T) iminus_T
def icomP_an (x y : List Int) : Ann :=
 .two .auto (.two .auto (.two .auto (.two (.two .auto (.one (.loop LbC (fun σ z => [(0, σ.tm 0), (1, σ.tm 1), (2, σ.tm 2), (17, σ.tm 17), (7, .ns σ.nb 0 z.out.length), (8, .i z.c), (18, .i (z.out.length : Int))]) (fun σ z => [(σ.nb, iArr z.out)]) 1 (fun σ z => SumZ 1000000000 x y z.out.length z.out z.c ∧ z.out.length ≤ max x.length y.length + 1) (fun σ z => max x.length y.length + 1 - z.out.length) .auto))) .auto)))
def icomP_t : List AV → Option (List Cond × AV)
 | [x_x, x_y, .fn (.func 207) 0 fa_ 0 fc_] => some ([.b (slOk Int x_x), .b (slOk Int x_y), .p (InL 1000000000 (intsOf x_x)), .p (InL 1000000000 (intsOf x_y)), .p ((intsOf x_x).length ≤ 1000000000), .p ((intsOf x_y).length ≤ 1000000000)], slE (limbs 1000000000 (valL 1000000000 (intsOf x_x) + valL 1000000000 (intsOf x_y)).toNat))
 | _ => none
theorem icomP_vc (x : List Int) (y : List Int) (hx : InL 1000000000 x) (hy : InL 1000000000 y) (hlx : x.length ≤ 1000000000) (hly : y.length ≤ 1000000000) :
 let q2 := (if (lZ y) > (lZ x) then (lZ y) else (lZ x)); let q1 := (q2 + iO); let q3 := (AV.xl false 1 (lN x) fun i j => aI (gD x i Enc.dflt)); let q4 := (AV.xl false 1 (lN y) fun i j => aI (gD y i Enc.dflt)); let q5 := (AV.fn (Fn.func (207 : FuncId)) 0 (fun (x : Nat) => AV.junk) 0 fun (x : Nat) => AV.junk); let q6 := (kI ∧ q2 + iO = q2 + iO); let q7 := (intsOf q3); let q9 := (intsOf q4); let q12 := (limbs 1000000000
 (Int.toNat (valL iB x + valL iB y))); bndL [AV.xl false 1 (lN x) fun i j => aI (gD x i Enc.dflt), AV.xl false 1 (lN y) fun i j => aI (gD y i Enc.dflt), AV.fn (Fn.func (207 : FuncId)) 0 (fun (x : Nat) => AV.junk) 0 fun (x : Nat) => AV.junk] → bsplit (DB.db (inK .i64 q1)) ((∃ (z : LbC), ((SumZ iB x y (lN (LbC.out z)) (LbC.out z) (LbC.c z) ∧ lN (LbC.out z) ≤ max (lN x) (lN y) + 1) ∧ avM q3 q3 ∧ avM q4 q4 ∧ avM q5 q5 ∧ q6 ∧ (some (Non Nat) = some
 (Non Nat) ∧ 0 = 0 ∧ lN (LbC.out z) = 0) ∧ (kI ∧ iZ = LbC.c z) ∧ kI ∧ iZ = (lZ (LbC.out z))) ∧ lN (LbC.out z) = 0) ∧ ∀ (z : LbC), let q8 := (Int.toNat (lZ (LbC.out z))); let q10 := (gD q7 q8 iZ + gD q9 q8 iZ + LbC.c z); let q11 := (AV.xl false 1 (lN (LbC.out z)) fun i j => aI (gD (LbC.out z) (0 + i) iZ)); let q13 := (trimL (intsOf q11)); SumZ iB x y (lN (LbC.out z)) (LbC.out z) (LbC.c z) ∧ List.length
 (LbC.out z) ≤ max (lN x) (lN y) + 1 → bsplit (ltB (lZ (LbC.out z)) q1) (bsplit (slOk Int q3) (iZ ≤ (lZ (LbC.out z)) ∧ bsplit (slOk Int q4) (iZ ≤ (lZ (LbC.out z)) ∧ (iZ ≤ gD q7 q8 iZ ∧ gD q7 q8 iZ ≤ (999999999 : Int)) ∧ (iZ ≤ gD q9 q8 iZ ∧ gD q9 q8 iZ ≤ (999999999 : Int)) ∧ (iZ ≤ LbC.c z ∧ LbC.c z ≤ (999999999 : Int)) ∧ bsplit (DB.db ((lN (LbC.out z) + 1) * 8 ≤ 140737488355328)) (bsplit (DB.db (inK .i64 ((↑(List.length
 (LbC.out z)) : Int) + iO))) (∃ (z' : LbC), (((SumZ iB x y (lN (LbC.out z')) (LbC.out z') (LbC.c z') ∧ lN (LbC.out z') ≤ max (lN x) (lN y) + 1) ∧ max (lN x) (lN y) + 1 - lN (LbC.out z') < max (lN x) (lN y) + 1 - lN (LbC.out z)) ∧ avM q3 q3 ∧ avM q4 q4 ∧ avM q5 q5 ∧ q6 ∧ (nat_lit 0 = 0 ∧ 0 = 0 ∧ lN (LbC.out z') = lN (LbC.out z) + 1) ∧ (kI ∧ Int.tdiv q10 iB = LbC.c z') ∧ kI ∧ (lZ (LbC.out z)) + iO
 = (lZ (LbC.out z'))) ∧ (3 : TypeId) = 3 ∧ 1 = 1 ∧ lN (LbC.out z') = lN (LbC.out z) + 1 ∧ ∀ (i j : Nat), i < lN (LbC.out z) + 1 → j < 1 → avM (if i < lN (LbC.out z) then aI (gD (LbC.out z) i iZ) else Sx.rowAt [fun (x_1 : Nat) => aI (Int.tmod q10 iB)] (i - lN (LbC.out z)) j) (aI (gD (LbC.out z') i iZ))) False) False) False) False) (bsplit (slOk Int q11) ((false = true → false = true) ∧ 1 = 1 ∧ lN q12 = lN q13 ∧ ∀ (i j
 : Nat), i < lN q13 → j < 1 → kI ∧ gD q13 i Enc.dflt = gD q12 i Enc.dflt) False)) False := by
 delta kI lZ lN gD iZ iO iB aI
 dsimp only
 intro hb
 have e0 : (Enc.dflt : Int) = 0 := rfl
 simp only [↓vc_db, ↓vc_gdb, row_one]
 simp only [sS, dS, e0]
 have em : (if (y.length : Int) > (x.length : Int) then (y.length : Int) else (x.length : Int)) = ((max x.length y.length : Nat) : Int) := by split <;> omega
 rw [em]
 have hm : max x.length y.length ≤ 1000000000 := by omega
 have hm1 : x.length ≤ max x.length y.length := by omega
 have hm2 : y.length ≤ max x.length y.length := by omega
 generalize max x.length y.length = m at *
 refine ⟨⟨by omega, by omega⟩, ⟨⟨[], 0⟩, ⟨⟨.zero _ _ _, by simp⟩, rfl, rfl, rfl⟩, rfl⟩, fun z ⟨z1, z2⟩ => ⟨fun hz => ?_, fun hz => ?_⟩⟩
 ·have g1 := hx.get (by omega) z.out.length
  have g2 := hy.get (by omega) z.out.length
  have c0 := z1.c0
  have c1 := z1.c1
  have hs := SumZ.step (by omega) hx hy z1
  exact ⟨by omega, by omega, ⟨by omega, by omega⟩, ⟨by omega, by omega⟩, ⟨by omega, by omega⟩, by omega, ⟨by omega, by omega⟩, ⟨z.out ++ [(x.getD z.out.length 0 + y.getD z.out.length 0 + z.c).tmod 1000000000], (x.getD z.out.length 0 + y.getD z.out.length 0 + z.c).tdiv 1000000000⟩, ⟨⟨⟨by simp only [List.length_append, List.length_singleton]; exact hs, by simp; omega⟩, by simp; omega⟩, by simp, rfl, by simp⟩, by simp, fun i j => snocI _ _ i j⟩
 ·have he := z1.end_ (b := 1000000000) (by omega) hx hy (by omega) (by omega)
  rw [he]
  exact ⟨fun h => h, rfl, fun _ _ _ _ => rfl⟩
theorem icomP_C (x : List Int) (y : List Int) (hx : InL 1000000000 x) (hy : InL 1000000000 y) (hlx : x.length ≤ 1000000000) (hly : y.length ≤ 1000000000) : PureCall Tryz.prog [] 206 [slE x, slE y, fn0 207] (slE (limbs 1000000000 (valL 1000000000 x + valL 1000000000 y).toNat)) :=
 pure_of_vc (T := Ti1) (an := icomP_an x y) mixed Ti1_sound (Eq.mp (by kernel_rfl) (icomP_vc x y hx hy hlx hly))
theorem icomP_T : PureT Tryz.prog [] 206 icomP_t := by
 intro xs ps r h hp
 unfold icomP_t at h
 split at h
 ·skip
  rename_i x_x x_y fa_ fc_
  cases h
  obtain ⟨q0, q1, q2, q3, q4, q5, -⟩ := allC hp
  exact weaken (ys := [slE (intsOf x_x), slE (intsOf x_y), fn0 207]) ⟨slE_sound q0, slE_sound q1, ⟨rfl, rfl, rfl, allB_zero, allB_zero⟩, trivial⟩ (icomP_C (intsOf x_x) (intsOf x_y) q2 q3 q4 q5)
 ·cases h
def icomM_an (x y : List Int) : Ann :=
 .two .auto (.two .auto (.two .auto (.two (.two .auto (.one (.loop LbC (fun σ z => [(0, σ.tm 0), (1, σ.tm 1), (2, σ.tm 2), (17, σ.tm 17), (7, .ns σ.nb 0 z.out.length), (8, .i z.c), (18, .i (z.out.length : Int))]) (fun σ z => [(σ.nb, iArr z.out)]) 1 (fun σ z => DifZ 1000000000 x y z.out.length z.out z.c ∧ z.out.length ≤ max x.length y.length + 1) (fun σ z => max x.length y.length + 1 - z.out.length) .auto))) .auto)))
def icomM_t : List AV → Option (List Cond × AV)
 | [x_x, x_y, .fn (.func 209) 0 fa_ 0 fc_] => some ([.b (slOk Int x_x), .b (slOk Int x_y), .p (InL 1000000000 (intsOf x_x)), .p (InL 1000000000 (intsOf x_y)), .p ((intsOf x_x).length ≤ 1000000000), .p ((intsOf x_y).length ≤ 1000000000), .p (valL 1000000000 (intsOf x_y) ≤ valL 1000000000 (intsOf x_x))], slE (limbs 1000000000 (valL 1000000000 (intsOf x_x) - valL 1000000000 (intsOf x_y)).toNat))
 | _ => none
theorem icomM_vc (x : List Int) (y : List Int) (hx : InL 1000000000 x) (hy : InL 1000000000 y) (hlx : x.length ≤ 1000000000) (hly : y.length ≤ 1000000000) (hle : valL 1000000000 y ≤ valL 1000000000 x) :
 let q2 := (if (lZ y) > (lZ x) then (lZ y) else (lZ x)); let q1 := (q2 + iO); let q3 := (AV.xl false 1 (lN x) fun i j => aI (gD x i Enc.dflt)); let q4 := (AV.xl false 1 (lN y) fun i j => aI (gD y i Enc.dflt)); let q5 := (AV.fn (Fn.func (209 : FuncId)) 0 (fun (x : Nat) => AV.junk) 0 fun (x : Nat) => AV.junk); let q6 := (kI ∧ q2 + iO = q2 + iO); let q7 := (intsOf q3); let q9 := (intsOf q4); let q12 := (limbs 1000000000
 (Int.toNat (valL iB x - valL iB y))); bndL [AV.xl false 1 (lN x) fun i j => aI (gD x i Enc.dflt), AV.xl false 1 (lN y) fun i j => aI (gD y i Enc.dflt), AV.fn (Fn.func (209 : FuncId)) 0 (fun (x : Nat) => AV.junk) 0 fun (x : Nat) => AV.junk] → bsplit (DB.db (inK .i64 q1)) ((∃ (z : LbC), ((DifZ iB x y (lN (LbC.out z)) (LbC.out z) (LbC.c z) ∧ lN (LbC.out z) ≤ max (lN x) (lN y) + 1) ∧ avM q3 q3 ∧ avM q4 q4 ∧ avM q5 q5 ∧ q6 ∧ (some (Non Nat) = some
 (Non Nat) ∧ 0 = 0 ∧ lN (LbC.out z) = 0) ∧ (kI ∧ iZ = LbC.c z) ∧ kI ∧ iZ = (lZ (LbC.out z))) ∧ lN (LbC.out z) = 0) ∧ ∀ (z : LbC), let q8 := (Int.toNat (lZ (LbC.out z))); let q10 := (gD q7 q8 iZ - gD q9 q8 iZ - LbC.c z); let q11 := (AV.xl false 1 (lN (LbC.out z)) fun i j => aI (gD (LbC.out z) (0 + i) iZ)); let q13 := (trimL (intsOf q11)); DifZ iB x y (lN (LbC.out z)) (LbC.out z) (LbC.c z) ∧ List.length
 (LbC.out z) ≤ max (lN x) (lN y) + 1 → bsplit (ltB (lZ (LbC.out z)) q1) (bsplit (slOk Int q3) (iZ ≤ (lZ (LbC.out z)) ∧ bsplit (slOk Int q4) (iZ ≤ (lZ (LbC.out z)) ∧ (iZ ≤ gD q7 q8 iZ ∧ gD q7 q8 iZ ≤ (999999999 : Int)) ∧ (iZ ≤ gD q9 q8 iZ ∧ gD q9 q8 iZ ≤ (999999999 : Int)) ∧ (iZ ≤ LbC.c z ∧ LbC.c z ≤ (999999999 : Int)) ∧ bsplit (DB.db ((lN (LbC.out z) + 1) * 8 ≤ 140737488355328)) (bsplit (DB.db (inK .i64 ((↑(List.length
 (LbC.out z)) : Int) + iO))) (∃ (z' : LbC), (((DifZ iB x y (lN (LbC.out z')) (LbC.out z') (LbC.c z') ∧ lN (LbC.out z') ≤ max (lN x) (lN y) + 1) ∧ max (lN x) (lN y) + 1 - lN (LbC.out z') < max (lN x) (lN y) + 1 - lN (LbC.out z)) ∧ avM q3 q3 ∧ avM q4 q4 ∧ avM q5 q5 ∧ q6 ∧ (nat_lit 0 = 0 ∧ 0 = 0 ∧ lN (LbC.out z') = lN (LbC.out z) + 1) ∧ (kI ∧ (bif ltB q10 iZ then iO else iZ) = LbC.c z') ∧ kI ∧ (lZ (LbC.out
 z)) + iO = (lZ (LbC.out z'))) ∧ (3 : TypeId) = 3 ∧ 1 = 1 ∧ lN (LbC.out z') = lN (LbC.out z) + 1 ∧ ∀ (i j : Nat), i < lN (LbC.out z) + 1 → j < 1 → avM (if i < lN (LbC.out z) then aI (gD (LbC.out z) i iZ) else Sx.rowAt [fun (x_1 : Nat) => aI (bif ltB q10 iZ then gD q7 q8 iZ - gD q9 q8 iZ - LbC.c z + iB else gD q7 q8 iZ - gD q9 q8 iZ - LbC.c z)] (i - lN (LbC.out z)) j) (AV.v (Value.int .i64
 (gD (LbC.out z') i iZ)))) False) False) False) False) (bsplit (slOk Int q11) ((false = true → false = true) ∧ 1 = 1 ∧ lN q12 = lN q13 ∧ ∀ (i j : Nat), i < lN q13 → j < 1 → kI ∧ gD q13 i Enc.dflt = gD q12 i Enc.dflt) False)) False := by
 delta kI lZ lN gD iZ iO iB aI
 dsimp only
 intro hb
 have e0 : (Enc.dflt : Int) = 0 := rfl
 simp only [↓vc_db, ↓vc_gdb, row_one]
 simp only [sS, dS, e0]
 have em : (if (y.length : Int) > (x.length : Int) then (y.length : Int) else (x.length : Int)) = ((max x.length y.length : Nat) : Int) := by split <;> omega
 rw [em]
 have hm : max x.length y.length ≤ 1000000000 := by omega
 have hm1 : x.length ≤ max x.length y.length := by omega
 have hm2 : y.length ≤ max x.length y.length := by omega
 generalize max x.length y.length = m at *
 refine ⟨⟨by omega, by omega⟩, ⟨⟨[], 0⟩, ⟨⟨.zero _ _ _, by simp⟩, rfl, rfl, rfl⟩, rfl⟩, fun z ⟨z1, z2⟩ => ⟨fun hz => ?_, fun hz => ?_⟩⟩
 ·have g1 := hx.get (by omega) z.out.length
  have g2 := hy.get (by omega) z.out.length
  have c0 := z1.c0
  have c1 := z1.c1
  have hs := DifZ.step (by omega) hx hy z1
  refine ⟨by omega, by omega, ⟨by omega, by omega⟩, ⟨by omega, by omega⟩, ⟨by omega, by omega⟩, by omega, ⟨by omega, by omega⟩, ?_⟩
  by_cases hn : x.getD z.out.length 0 - y.getD z.out.length 0 - z.c < 0
  ·rw [show ltB (x.getD z.out.length 0 - y.getD z.out.length 0 - z.c) 0 = true from (ltB_iff _ _).2 hn]
   exact ⟨⟨_, 1⟩, ⟨⟨⟨by simpa using hs.2 hn, by simp; omega⟩, by simp; omega⟩, by simp, rfl, by simp⟩, by simp, fun i j => snocI _ _ i j⟩
  ·rw [show ltB (x.getD z.out.length 0 - y.getD z.out.length 0 - z.c) 0 = false by rw [Bool.eq_false_iff, Ne, ltB_iff]; exact hn]
   exact ⟨⟨_, 0⟩, ⟨⟨⟨by simpa using hs.1 (by omega), by simp; omega⟩, by simp; omega⟩, by simp, rfl, by simp⟩, by simp, fun i j => snocI _ _ i j⟩
 ·have he := z1.end_ (b := 1000000000) (by omega) (by omega) (by omega) hle
  rw [he]
  exact ⟨fun h => h, rfl, fun _ _ _ _ => rfl⟩
theorem icomM_C (x : List Int) (y : List Int) (hx : InL 1000000000 x) (hy : InL 1000000000 y) (hlx : x.length ≤ 1000000000) (hly : y.length ≤ 1000000000) (hle : valL 1000000000 y ≤ valL 1000000000 x) : PureCall Tryz.prog [] 206 [slE x, slE y, fn0 209] (slE (limbs 1000000000 (valL 1000000000 x - valL 1000000000 y).toNat)) :=
 pure_of_vc (T := Ti1) (an := icomM_an x y) mixed Ti1_sound (Eq.mp (by kernel_rfl) (icomM_vc x y hx hy hlx hly hle))
theorem icomM_T : PureT Tryz.prog [] 206 icomM_t := by
 intro xs ps r h hp
 unfold icomM_t at h
 split at h
 ·skip
  rename_i x_x x_y fa_ fc_
  cases h
  obtain ⟨q0, q1, q2, q3, q4, q5, q6, -⟩ := allC hp
  exact weaken (ys := [slE (intsOf x_x), slE (intsOf x_y), fn0 209]) ⟨slE_sound q0, slE_sound q1, ⟨rfl, rfl, rfl, allB_zero, allB_zero⟩, trivial⟩ (icomM_C (intsOf x_x) (intsOf x_y) q2 q3 q4 q5 q6)
 ·cases h
end Go.Te

namespace Go.Te
open Go Go.Sx Go.Proofs Go.Ar
set_option maxRecDepth 100000
set_option maxHeartbeats 4000000
noncomputable def TBw : Tb := T0.body Tryz.prog [(239, .auto)]
theorem TBw_sound : TbSound Tryz.prog TBw := TbSound.body mixed tb0_sound _
def icmp_it (x y : List Int) : Ann :=
 .two .auto (.one (.loop Nat (fun σ z => [(0, σ.tm 0), (1, σ.tm 1), (3, .i ((z : Int) - 1))]) (fun _ z => []) 0
  (fun _ z => z ≤ x.length ∧ ∀ i, z ≤ i → i < x.length → x.getD i 0 = y.getD i 0) (fun _ z => z) .auto))
def icmp_an (x y : List Int) : Ann :=
 .two .auto (.two .auto (.two (.two .auto (.one (.range (icmp_it x y) .auto .auto))) .auto))
def icmp_t : List AV → Option (List Cond × AV)
 | [x_x, x_y] => some ([.b (slOk Int x_x), .b (slOk Int x_y), .p (InL 1000000000 (intsOf x_x)), .p (InL 1000000000 (intsOf x_y))], .i (cmpL (intsOf x_x) (intsOf x_y)))
 | _ => none
theorem icmp_vc (x : List Int) (y : List Int) (hx : InL 1000000000 x) (hy : InL 1000000000 y) :
 let q2 := (AV.xl false 1 (lN y) fun i j => aI (gD y i Enc.dflt)); let q3 := (AV.xl false 1 (lN x) fun i j => aI (gD x i Enc.dflt)); let q1 := (((57 = 57 ∧ 1 = 1 ∧ avM q2 q2) ∧ 3 = 3 ∧ 1 = 1 ∧ kI ∧ iZ = iZ) ∧ 57 = 57 ∧ 1 = 1 ∧ avM q3 q3); bndL [AV.xl false 1 (lN x) fun i j => aI (gD x i Enc.dflt), AV.xl false 1 (lN y) fun i j => aI (gD y i Enc.dflt)] → bsplit ((lZ x) != (lZ y)) (bsplit (DB.db
 (inK .i64 ((lZ x) - (lZ y)))) (kI ∧ (lZ x) - (lZ y) = cmpL x y) False) (bsplit (DB.db (inK .i64 ((lZ x) - iO))) ((∃ (z : Nat), ((z ≤ lN x ∧ ∀ (i : Nat), z ≤ i → i < lN x → gD x i iZ = gD y i iZ) ∧ nat_lit 3 = 3 ∧ (nat_lit 2 = 2 ∧ 0 = 0) ∧ kI ∧ (lZ x) - iO = (↑z : Int) - iO) ∧ q1 ∧ LoopState.ready = LoopState.ready ∧ Non Code = Non Code) ∧ ∀ (z : Nat), let q4 := (DB.db (iZ ≤ (↑z : Int)
 - iO ∧ (↑z : Int) - iO < (lZ y))); (z ≤ lN x ∧ ∀ (i : Nat), z ≤ i → i < lN x → gD x i iZ = gD y i iZ) → bsplit (leB iZ ((↑z : Int) - iO)) (bsplit (DB.db (iZ ≤ (↑z : Int) - iO ∧ (↑z : Int) - iO < (lZ x))) (bsplit q4 (bsplit (gD x (Int.toNat ((↑z : Int) - iO)) Enc.dflt != gD y (Int.toNat ((↑z : Int) - iO)) Enc.dflt) (bsplit q4 (bsplit (DB.db (inK .i64 (gD x (Int.toNat ((↑z : Int) - iO)) Enc.dflt - gD y (Int.toNat ((↑z :
 Int) - iO)) Enc.dflt))) (kI ∧ gD x (Int.toNat ((↑z : Int) - iO)) Enc.dflt - gD y (Int.toNat ((↑z : Int) - iO)) Enc.dflt = cmpL x y) False) False) (bsplit (DB.db (inK .i64 ((↑z : Int) - iO - iO))) (∃ (z' : Nat), (((z' ≤ lN x ∧ ∀ (i : Nat), z' ≤ i → i < lN x → gD x i iZ = gD y i iZ) ∧ z' < z) ∧ nat_lit 3 = 3 ∧ (nat_lit 2 = 2 ∧ 0 = 0) ∧ kI ∧ (↑z : Int) - iO - iO = (↑z' : Int) - iO) ∧ q1 ∧ LoopState.ready = LoopState.ready ∧ Non Code = Non Code) False))
 False) False) (kI ∧ iZ = cmpL x y)) False) := by
 delta kI lZ lN gD iZ iO aI
 dsimp only
 intro hb
 have e0 : (Enc.dflt : Int) = 0 := rfl
 simp only [↓vc_db, ↓vc_gdb, row_one]
 simp only [sS, dS, e0]
 simp only [pred_nat]
 have hx1 : x.length ≤ 9223372036854775807 := hb.1.1
 have hy1 : y.length ≤ 9223372036854775807 := hb.2.1
 refine ⟨fun hne => ⟨⟨by omega, by omega⟩, ?_⟩, fun heq => ⟨⟨by omega, by omega⟩, ⟨x.length, ⟨Nat.le_refl _, fun i h1 h2 => by omega⟩, rfl⟩, fun z ⟨h1, h2⟩ => ⟨fun hz => ?_, fun hz => ?_⟩⟩⟩
 ·exact (cmpL_ne (fun e => hne (by omega))).symm
 ·have hd : Ar.cmpL x y = difL x y z := by rw [cmpL_eq (by omega), difL_skip h1 h2]
  have hd2 : difL x y z = bif x.getD (z - 1) 0 != y.getD (z - 1) 0 then x.getD (z - 1) 0 - y.getD (z - 1) 0 else difL x y (z - 1) := by
   conv => lhs; rw [show z = z - 1 + 1 by omega]
   rfl
  have g1 := hx.get (by omega) (z - 1)
  have g2 := hy.get (by omega) (z - 1)
  refine ⟨⟨by omega, by omega⟩, ⟨by omega, by omega⟩, fun h => ⟨⟨by omega, by omega⟩, ⟨by omega, by omega⟩, ?_⟩, fun h => ⟨⟨by omega, by omega⟩, z - 1, ⟨⟨by omega, fun i h4 h5 => ?_⟩, by omega⟩, by omega⟩⟩
  ·rw [hd, hd2, bne_iff_ne.2 h]; rfl
  ·by_cases e : i = z - 1
   ·rw [e]; exact h
   ·exact h2 i (by omega) h5
 ·rw [cmpL_eq (by omega), difL_skip h1 h2, show z = 0 by omega]; rfl
theorem icmp_C (x : List Int) (y : List Int) (hx : InL 1000000000 x) (hy : InL 1000000000 y) : PureCall Tryz.prog [] 208 [slE x, slE y] (.i (cmpL x y)) :=
 pure_of_vc (T := TBw) (an := icmp_an x y) mixed TBw_sound (Eq.mp (by kernel_rfl) (icmp_vc x y hx hy))
theorem icmp_T : PureT Tryz.prog [] 208 icmp_t := by
 intro xs ps r h hp
 unfold icmp_t at h
 split at h
 ·skip
  rename_i x_x x_y
  cases h
  obtain ⟨q0, q1, q2, q3, -⟩ := allC hp
  exact weaken (ys := [slE (intsOf x_x), slE (intsOf x_y)]) ⟨slE_sound q0, slE_sound q1, trivial⟩ (icmp_C (intsOf x_x) (intsOf x_y) q2 q3)
 ·cases h
def itimes_an (x y : List Int) : Ann :=
 .two .auto (.two .auto (.two (.two .auto (.one (.loop MlZ (fun σ z => [(1, σ.tm 1), (5, σ.tm 5), (18, σ.tm 18), (19, σ.tm 19), (20, .i (z.i : Int))]) (fun σ z => [(blkAt (σ.tm 5), iArr z.out)]) 0 (fun σ z => MulZ 1000000000 x y z.i z.out ∧ z.i ≤ x.length) (fun σ z => x.length - z.i) (.two .auto (.two .auto (.two (.one (.two .auto (.two .auto (.two .auto (.one (.loop MlK (fun σ z => [(1, σ.tm 1), (5, σ.tm 5), (6, σ.tm 6), (7, σ.tm 7), (18, σ.tm 18), (19, σ.tm 19), (20, σ.tm 20), (27, σ.tm 27), (8, .i z.c), (28, .i (z.k : Int))]) (fun σ z => [(blkAt (σ.tm 5), iArr z.out)]) 0 (fun σ z => MulK 1000000000 x y (AV.int (σ.tm 6)).toNat z.k z.out z.c ∧ z.k ≤ y.length + 1 ∧ (z.k = y.length + 1 → z.c = 0)) (fun σ z => y.length + 1 - z.k) .auto)))))) .auto)))))) .auto))
def itimes_t : List AV → Option (List Cond × AV)
 | [x_x, x_y] => some ([.b (slOk Int x_x), .b (slOk Int x_y), .p (InL 1000000000 (intsOf x_x)), .p (InL 1000000000 (intsOf x_y)), .p ((intsOf x_x).length ≤ 1000000000), .p ((intsOf x_y).length ≤ 1000000000)], slE (limbs 1000000000 (valL 1000000000 (intsOf x_x) * valL 1000000000 (intsOf x_y)).toNat))
 | _ => none
theorem itimes_vc (x : List Int) (y : List Int) (hx : InL 1000000000 x) (hy : InL 1000000000 y) (hlx : x.length ≤ 1000000000) (hly : y.length ≤ 1000000000) :
 let q1 := ((lZ x) + (lZ y) + iO); let q2 := (AV.xl false 1 (lN y) fun i j => aI (gD y i Enc.dflt)); let q3 := (nat_lit 0 = 0 ∧ 0 = 0 ∧ Int.toNat q1 = Int.toNat q1); let q4 := (AV.xl false 1 (lN x) fun i j => aI (gD x i Enc.dflt)); let q5 := (kI ∧ (lZ x) = (lZ x)); let q9 := (kI ∧ (lZ y) + iO = (lZ y) + iO); let q13 := (Int.toNat q1); let q14 := (intsOf q2); let q18 :=
 (limbs 1000000000 (Int.toNat (valL iB x * valL iB y))); bndL [AV.xl false 1 (lN x) fun i j => aI (gD x i Enc.dflt), AV.xl false 1 (lN y) fun i j => aI (gD y i Enc.dflt)] → bsplit (DB.db (inK .i64 ((lZ x) + (lZ y)))) (bsplit (DB.db (inK .i64 q1)) (bsplit (DB.db (iZ ≤ (lZ x) + (lZ y) + iO ∧ (lZ x) + (lZ y) + iO ≤ (lZ x) + (lZ y) + (1
 : Int) ∧ (↑8 : Int) * q1 ≤ (140737488355328 : Int))) ((∃ (z : MlZ), ((MulZ iB x y (MlZ.i z) (MlZ.out z) ∧ MlZ.i z ≤ lN x) ∧ avM q2 q2 ∧ q3 ∧ avM q4 q4 ∧ q5 ∧ kI ∧ iZ = (↑(MlZ.i z) : Int)) ∧ (3 : TypeId) = 3 ∧ 1 = 1 ∧ lN (MlZ.out z) = Int.toNat q1 ∧ ∀ (i j : Nat), i < Int.toNat q1 → j < 1 → avM (zcell (Value.int .i64 iZ) j) (aI (gD (MlZ.out z) i iZ))) ∧ ∀ (z : MlZ), let q6 := (Int.toNat (AV.int (aI (↑(MlZ.i z) : Int)))); let q7 := (kI ∧ (↑(MlZ.i z) : Int) = (↑(MlZ.i
 z) : Int)); let q8 := (kI ∧ gD x (Int.toNat (↑(MlZ.i z) : Int)) Enc.dflt = gD x (Int.toNat (↑(MlZ.i z) : Int)) Enc.dflt); let q17 := (AV.xl false 1 q13 fun i j => aI (gD (MlZ.out z) (0 + i) iZ)); let q19 := (trimL (intsOf q17)); MulZ iB x y (MlZ.i z) (MlZ.out z) ∧ MlZ.i z ≤ lN x → bsplit (ltB (↑(MlZ.i z) : Int) (lZ x)) (bsplit (DB.db (iZ ≤ (↑(MlZ.i z) : Int) ∧ (↑(MlZ.i z) : Int) < (lZ x))) (bsplit (DB.db (inK .i64 ((lZ y) + iO))) ((∃ (z_1 :
 MlK), ((MulK iB x y q6 (MlK.k z_1) (MlK.out z_1) (MlK.c z_1) ∧ MlK.k z_1 ≤ lN y + 1 ∧ (MlK.k z_1 = lN y + 1 → MlK.c z_1 = iZ)) ∧ avM q2 q2 ∧ q3 ∧ q7 ∧ q8 ∧ avM q4 q4 ∧ q5 ∧ q7 ∧ q9 ∧ (kI ∧ iZ = MlK.c z_1) ∧ kI ∧ iZ = (↑(MlK.k z_1) : Int)) ∧ 3 = 3 ∧ 1 = 1 ∧ lN (MlK.out z_1) = lN (MlZ.out z) ∧ ∀ (i j : Nat), i < lN (MlZ.out z) → j < 1 → kI ∧ gD (MlZ.out z) i iZ = gD (MlK.out z_1) i iZ) ∧ ∀ (z_1 : MlK), let q11 := ((↑(MlZ.i z) : Int) +
 (↑(MlK.k z_1) : Int)); let q10 := (DB.db (inK .i64 q11)); let q12 := (DB.db (iZ ≤ (↑(MlZ.i z) : Int) + (↑(MlK.k z_1) : Int) ∧ (↑(MlZ.i z) : Int) + (↑(MlK.k z_1) : Int) < (↑q13 : Int))); let q15 := (0 + Int.toNat q11); let q16 := (gD (MlK.out z_1) q15 iZ + gD x (Int.toNat (↑(MlZ.i z) : Int)) Enc.dflt * gD q14 (Int.toNat (↑(MlK.k z_1) : Int)) iZ + MlK.c z_1); MulK iB x y q6 (MlK.k z_1) (MlK.out z_1) (MlK.c z_1) ∧ MlK.k z_1 ≤ lN y + 1 ∧ (MlK.k z_1 = lN y + 1 → MlK.c z_1 = iZ) → bsplit (ltB (↑(MlK.k z_1) : Int)
 ((lZ y) + iO)) (bsplit q10 (bsplit q12 (bsplit (slOk Int q2) (iZ ≤ (↑(MlK.k z_1) : Int) ∧ bsplit (DB.db (inK .i64 (gD x (Int.toNat (↑(MlZ.i z) : Int)) Enc.dflt * gD q14 (Int.toNat (↑(MlK.k z_1) : Int)) iZ))) (bsplit (DB.db (inK .i64 (gD (MlK.out z_1) q15 iZ + gD x (Int.toNat (↑(MlZ.i z) : Int)) Enc.dflt * gD q14 (Int.toNat (↑(MlK.k z_1) : Int)) iZ))) (bsplit (DB.db (inK .i64 q16)) (bsplit q10 (bsplit (DB.db (inK .i64 (Int.tdiv q16 iB))) (bsplit q12 (bsplit (DB.db (inK .i64 ((↑(MlK.k z_1) :
 Int) + iO))) (∃ (z' : MlK), (((MulK iB x y q6 (MlK.k z') (MlK.out z') (MlK.c z') ∧ MlK.k z' ≤ lN y + 1 ∧ (MlK.k z' = lN y + 1 → MlK.c z' = iZ)) ∧ lN y + 1 - MlK.k z' < lN y + 1 - MlK.k z_1) ∧ avM q2 q2 ∧ q3 ∧ q7 ∧ q8 ∧ avM q4 q4 ∧ q5 ∧ q7 ∧ q9 ∧ (kI ∧ Int.tdiv q16 iB = MlK.c z') ∧ kI ∧ (↑(MlK.k z_1) : Int) + iO = (↑(MlK.k z') : Int)) ∧ 3 = 3 ∧ 1 = 1 ∧ lN (MlK.out z') = lN (MlK.out z_1) ∧ ∀ (i j : Nat), i < lN (MlK.out z_1) → j < 1 → avM (if i = 0 +
 Int.toNat q11 ∧ 0 ≤ j ∧ j < 1 then aI (Int.tmod q16 iB) else aI (gD (MlK.out z_1) i iZ)) (aI (gD (MlK.out z') i iZ))) False) False) False) False) False) False) False) False) False) False) (bsplit (DB.db (inK .i64 ((↑(MlZ.i z) : Int) + iO))) (∃ (z' : MlZ), (((MulZ iB x y (MlZ.i z') (MlZ.out z') ∧ MlZ.i z' ≤ lN x) ∧ lN x - MlZ.i z' < lN x - MlZ.i z) ∧ avM q2 q2 ∧ q3 ∧ avM q4 q4 ∧ q5 ∧ kI ∧ (↑(MlZ.i z) : Int) + iO = (↑(MlZ.i
 z') : Int)) ∧ 3 = 3 ∧ 1 = 1 ∧ lN (MlZ.out z') = lN (MlK.out z_1) ∧ ∀ (i j : Nat), i < lN (MlK.out z_1) → j < 1 → kI ∧ gD (MlK.out z_1) i iZ = gD (MlZ.out z') i iZ) False)) False) False) (bsplit (slOk Int q17) ((false = true → false = true) ∧ 1 = 1 ∧ lN q18 = lN q19 ∧ ∀ (i j : Nat), i < lN q19 → j < 1 → kI ∧ gD q19 i Enc.dflt = gD q18 i Enc.dflt) False)) False) False) False := by
 delta kI lZ lN gD iZ iO iB aI
 dsimp only
 intro hb
 have e0 : (Enc.dflt : Int) = 0 := rfl
 simp only [↓vc_db, ↓vc_gdb, row_one]
 simp only [sS, dS, e0]
 have en : ((x.length : Int) + (y.length : Int) + 1).toNat = x.length + y.length + 1 := by omega
 rw [en]
 refine ⟨⟨by omega, by omega⟩, ⟨by omega, by omega⟩, ⟨by omega, Int.le_refl _, by omega⟩, ⟨⟨0, List.replicate (x.length + y.length + 1) 0⟩, ⟨⟨.zero_ (by omega) _ _, Nat.zero_le _⟩, rfl⟩, by simp, fun i j _ hj => zeroI _ i j hj⟩, fun z ⟨z1, z2⟩ => ⟨fun hz => ⟨⟨by omega, hz⟩, ⟨by omega, by omega⟩, ⟨⟨0, 0, z.out⟩, ⟨⟨z1.start (by omega), Nat.zero_le _, fun h => rfl⟩, rfl, rfl⟩, rfl, fun _ _ _ _ => rfl⟩, fun w ⟨w1, w2, w3⟩ => ⟨fun hk0 => ?_, fun hk0 => ?_⟩⟩, fun hz => ?_⟩⟩
 ·have hz' : z.i < x.length := by omega
  have w4 := w1.len
  have hk : w.k ≤ y.length := by omega
  have ek : ((z.i : Int) + (w.k : Int)).toNat = z.i + w.k := by omega
  rw [ek]
  obtain ⟨⟨n0, n1⟩, hs⟩ := w1.step (by omega) hx hy hz' hk
  have g1 := hx.get (by omega) z.i
  have g2 := hy.get (by omega) w.k
  have g3 := w1.in_.get (by omega) (z.i + w.k)
  have c0 := w1.c0
  have c1 := w1.c1
  have p0 : 0 ≤ x.getD z.i 0 * y.getD w.k 0 := Int.mul_nonneg g1.1 g2.1
  have d0 := hs.c0
  have d1 := hs.c1
  refine ⟨⟨by omega, by omega⟩, ⟨by omega, by omega⟩, by omega, ⟨by omega, by omega⟩, ⟨by omega, by omega⟩, ⟨by omega, by omega⟩, ⟨by omega, by omega⟩, ⟨by omega, by omega⟩, ⟨by omega, by omega⟩, ⟨by omega, by omega⟩, ⟨w.k + 1, _, _⟩, ⟨⟨⟨hs, by simp only; omega, fun h => ?_⟩, by simp only; omega⟩, rfl, rfl⟩, by simp, fun i j _ => setI _ _ _ (by omega) i j⟩
  have hk' : w.k = y.length := by simp only at h; omega
  have := (hk' ▸ w1 : MulK 1000000000 x y z.i y.length w.out w.c).last (by omega)
  rw [← hk'] at this
  exact this
 ·have c0 := w1.c0
  have hc := w3 (by omega)
  exact ⟨⟨by omega, by omega⟩, ⟨z.i + 1, w.out⟩, ⟨⟨⟨w1.fin (by omega) w2 hc, by simp only; omega⟩, by simp only; omega⟩, rfl⟩, rfl, fun _ _ _ _ => rfl⟩
 ·have hz' : z.i = x.length := by omega
  have he := (hz' ▸ z1 : MulZ 1000000000 x y x.length z.out).end_ (b := 1000000000) (by omega)
  rw [← z1.len]
  simp only [sS, dS, e0]
  rw [he]
  exact ⟨fun h => h, rfl, fun _ _ _ _ => rfl⟩
theorem itimes_C (x : List Int) (y : List Int) (hx : InL 1000000000 x) (hy : InL 1000000000 y) (hlx : x.length ≤ 1000000000) (hly : y.length ≤ 1000000000) : PureCall Tryz.prog [] 203 [slE x, slE y] (slE (limbs 1000000000 (valL 1000000000 x * valL 1000000000 y).toNat)) :=
 pure_of_vc (T := Ti1) (an := itimes_an x y) mixed Ti1_sound (Eq.mp (by kernel_rfl) (itimes_vc x y hx hy hlx hly))
theorem itimes_T : PureT Tryz.prog [] 203 itimes_t := by
 intro xs ps r h hp
 unfold itimes_t at h
 split at h
 ·skip
  rename_i x_x x_y
  cases h
  obtain ⟨q0, q1, q2, q3, q4, q5, -⟩ := allC hp
  exact weaken (ys := [slE (intsOf x_x), slE (intsOf x_y)]) ⟨slE_sound q0, slE_sound q1, trivial⟩ (itimes_C (intsOf x_x) (intsOf x_y) q2 q3 q4 q5)
 ·cases h
end Go.Te
