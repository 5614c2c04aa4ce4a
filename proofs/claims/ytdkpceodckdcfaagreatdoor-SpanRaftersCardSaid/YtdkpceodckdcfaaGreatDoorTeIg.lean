/- integer: result, add. -/
import Derived.Test.YtdkpceodckdcfaaGreatDoorTeIc
set_option linter.unusedSimpArgs false
set_option linter.unusedVariables false
namespace Go.Te
open Go Go.Sx Go.Proofs Go.Ar
set_option maxRecDepth 100000
set_option maxHeartbeats 4000000
def sval (n : Bool) (l : List Int) : Int := bif n then - valL 1000000000 l else valL 1000000000 l
theorem agD_bigE (x : Big) : agD (AV.agg 2 fun i => Enc.enc x i) = x := agD_agE x
theorem agOk_bigE (x : Big) : agOk Big (AV.agg 2 fun i => Enc.enc x i) = true := agOk_agE x
theorem own_itoa (n : Int) : (ownS (Lib.itoa n)).length = nDg n := by
 obtain ⟨h1, h2⟩ := itoa_intB n
 rw [← (int_own (Lib.itoa n)).2, lenD_eq h1, h2]
def iresult_t : List AV → Option (List Cond × AV)
 | [x_x] => some ([.b (agOk Big x_x), .p (InL 1000000000 (agD (α := Big) x_x).l), .p (trimL (agD (α := Big) x_x).l = (agD (α := Big) x_x).l), .p ((agD (α := Big) x_x).l.length ≤ 100000000)], .tup 2 (listFn [.str (resS (sval (agD (α := Big) x_x).neg (agD (α := Big) x_x).l)), .i (resE (sval (agD (α := Big) x_x).neg (agD (α := Big) x_x).l))]))
 | _ => none
theorem iresult_vc (G : List (Nat × Obj)) (x : Big) (hx : InL 1000000000 x.l) (ht : trimL x.l = x.l) (hl : x.l.length ≤ 100000000) :
 let q1 := (AV.agg 2 fun (i : Nat) => Enc.enc x (0 + i)); let q3 := (agD q1); let q2 := (Big.l q3); let q4 := (bif Big.neg q3 then -valL iB q2 else valL iB q2); bndL [AV.agg 2 (Enc.enc x)] → bsplit (agOk Big q1) ((∀ (x_1 : Int), List.Mem x_1 q2 → iZ ≤ x_1 ∧ x_1 < iB) ∧ trimL q2 = Big.l q3 ∧ lN q2 ≤ 100000000 ∧ bsplit (ltB (300 : Int) (lZ (ownS (Lib.itoa q4)))) (j2 ∧ (True ∧ Array.toList (ByteArray.data (ByteArray.mk #[])) = resS (sval (Big.neg x) (Big.l x))) ∧ kI ∧ (4
 : Int) = resE (sval (Big.neg x) (Big.l x))) (j2 ∧ (True ∧ Lib.itoa q4 = resS (sval (Big.neg x) (Big.l x))) ∧ kI ∧ iZ = resE (sval (Big.neg x) (Big.l x)))) False := by
 delta kI j2 lZ lN iZ iB
 dsimp only
 intro hb
 have e0 : (Enc.dflt : Int) = 0 := rfl
 simp only [↓vc_db, ↓vc_gdb, row_one]
 simp only [sS, dS, e0, agD_bigE, agOk_bigE]
 refine ⟨hx, ht, hl, fun h => ?_, fun h => ?_⟩
 all_goals
  have hn := own_itoa (sval x.neg x.l)
  unfold sval at hn
  rw [hn] at h
  unfold resS resE sval
 ·rw [(blt_iff _ _).2 (show 300 < nDg _ by omega)]
  exact ⟨rfl, rfl, rfl⟩
 ·rw [show Nat.blt 300 (nDg (bif x.neg then - valL 1000000000 x.l else valL 1000000000 x.l)) = false from Bool.eq_false_iff.2 fun e => by have := (blt_iff _ _).1 e; omega]
  exact ⟨rfl, rfl, rfl⟩
theorem iresult_C {G : List (Nat × Obj)} (hG : TabIn G) (x : Big) (hx : InL 1000000000 x.l) (ht : trimL x.l = x.l) (hl : x.l.length ≤ 100000000) : PureCall Tryz.prog G 148 [agE x] (.tup 2 (listFn [.str (resS (sval x.neg x.l)), .i (resE (sval x.neg x.l))])) :=
 pure_of_vc (T := ((TIt G).plus 205 iwrite_t).plus 44 (dash_t fun s => .str (ownS s))) (an := .auto) mixed (TbSound.plus (TbSound.plus (TIt_sound hG) (iwrite_T hG)) (PureT.mono trimP_T)) (Eq.mp (by kernel_rfl) (iresult_vc G x hx ht hl))
theorem iresult_T {G : List (Nat × Obj)} (hG : TabIn G) : PureT Tryz.prog G 148 iresult_t := by
 intro xs ps r h hp
 unfold iresult_t at h
 split at h
 ·skip
  rename_i x_x
  cases h
  obtain ⟨q0, q1, q2, q3, -⟩ := allC hp
  exact weaken (ys := [agE (agD (α := Big) x_x)]) ⟨agE_sound q0, trivial⟩ (iresult_C hG (agD (α := Big) x_x) q1 q2 q3)
 ·cases h
def icom_t (xs : List AV) : Option (List Cond × AV) :=
 match icomP_t xs with
 | some r => some r
 | none => icomM_t xs
theorem icom_T : PureT Tryz.prog [] 206 icom_t := by
 intro xs ps r h hp
 unfold icom_t at h
 split at h
 ·rename_i r' h'
  cases h
  exact icomP_T _ _ _ h' hp
 ·exact icomM_T _ _ _ h hp
noncomputable def Tad : Tb := (T0.plus 206 icom_t).plus 208 icmp_t
theorem Tad_sound : TbSound Tryz.prog Tad := TbSound.plus (TbSound.plus tb0_sound icom_T) icmp_T
def adN (x y : Big) : Bool := bif x.neg == y.neg then x.neg else bif leB 0 (cmpL x.l y.l) then x.neg else y.neg
def adV (x y : Big) : Int := bif x.neg == y.neg then valL 1000000000 x.l + valL 1000000000 y.l else bif leB 0 (cmpL x.l y.l) then valL 1000000000 x.l - valL 1000000000 y.l else valL 1000000000 y.l - valL 1000000000 x.l
theorem cmpLe {x y : List Int} (hx : InL 1000000000 x) (hy : InL 1000000000 y) (tx : trimL x = x) (ty : trimL y = y) : (0 ≤ cmpL x y ↔ valL 1000000000 y ≤ valL 1000000000 x) := by
 have e1 : x = limbs 1000000000 (valL 1000000000 x).toNat := limbs_eq (b := 1000000000) (by omega) hx tx
 have e2 : y = limbs 1000000000 (valL 1000000000 y).toNat := limbs_eq (b := 1000000000) (by omega) hy ty
 have v1 := valL_nonneg (b := 1000000000) (by omega) hx
 have v2 := valL_nonneg (b := 1000000000) (by omega) hy
 have c := (cmpL_sign (b := 1000000000) (by omega) (valL 1000000000 x).toNat (valL 1000000000 y).toNat).1
 rw [← e1, ← e2] at c
 omega
def iadd_t : List AV → Option (List Cond × AV)
 | [x_x, x_y] => some ([.b (agOk Big x_x), .b (agOk Big x_y), .p (InL 1000000000 (agD (α := Big) x_x).l), .p (InL 1000000000 (agD (α := Big) x_y).l), .p (trimL (agD (α := Big) x_x).l = (agD (α := Big) x_x).l), .p (trimL (agD (α := Big) x_y).l = (agD (α := Big) x_y).l), .p ((agD (α := Big) x_x).l.length ≤ 1000000000), .p ((agD (α := Big) x_y).l.length ≤ 1000000000)], .agg 2 (listFn [.b (adN (agD (α := Big) x_x) (agD (α := Big) x_y)), slE (limbs 1000000000 (adV (agD (α := Big) x_x) (agD (α := Big) x_y)).toNat)]))
 | _ => none
theorem iadd_vc (x : Big) (y : Big) (hx : InL 1000000000 x.l) (hy : InL 1000000000 y.l) (tx : trimL x.l = x.l) (ty : trimL y.l = y.l) (lx : x.l.length ≤ 1000000000) (ly : y.l.length ≤ 1000000000) :
 let q2 := (AV.xl false 1 (lN (Big.l x)) fun i j => aI (gD (Big.l x) i Enc.dflt)); let q1 := (slOk Int q2); let q4 := (AV.xl false 1 (lN (Big.l y)) fun i j => aI (gD (Big.l y) i Enc.dflt)); let q3 := (slOk Int q4); let q6 := (intsOf q2); let q5 := (∀ (x_1 : Int), List.Mem x_1 q6 → iZ ≤ x_1 ∧ x_1 < iB); let q8 := (intsOf q4); let q7 := (∀ (x : Int), List.Mem x q8 → iZ ≤ x ∧ x < iB); let q9 := (limbs 1000000000 (Int.toNat (adV x y))); let q10 := (limbs 1000000000 (Int.toNat (valL
 iB q6 + valL iB q8))); let q11 := (limbs 1000000000 (Int.toNat (valL iB q6 - valL iB q8))); let q12 := (limbs 1000000000 (Int.toNat (valL iB q8 - valL iB q6))); bndL [AV.agg 2 (Enc.enc x), AV.agg 2 (Enc.enc y)] → bsplit (Big.neg x == Big.neg y) (bsplit q1 (bsplit q3 (q5 ∧ q7 ∧ lN q6 ≤ 1000000000 ∧ lN q8 ≤ 1000000000 ∧ 2 = 2 ∧ Big.neg x = adN x y ∧ (false = true → false = true) ∧ 1 = 1 ∧ lN q9 = lN q10 ∧ ∀ (i j : Nat), i < lN q10 → j < 1 → IntKind.i64 =
 .i64 ∧ gD q10 i Enc.dflt = gD q9 i Enc.dflt) False) False) (bsplit q1 (bsplit q3 (q5 ∧ q7 ∧ bsplit (leB iZ (cmpL q6 q8)) (bsplit q1 (bsplit q3 (q5 ∧ q7 ∧ lN q6 ≤ 1000000000 ∧ lN q8 ≤ 1000000000 ∧ valL iB q8 ≤ valL iB q6 ∧ 2 = 2 ∧ Big.neg x = adN x y ∧ (false = true → false = true) ∧ 1 = 1 ∧ lN q9 = lN q11 ∧ ∀ (i j : Nat), i < lN q11 → j < 1 → kI ∧ gD q11 i Enc.dflt = gD q9 i Enc.dflt) False) False) (bsplit q3 (bsplit q1 (q7 ∧ q5 ∧ lN q8 ≤ 1000000000 ∧
 lN q6 ≤ 1000000000 ∧ valL iB q6 ≤ valL iB q8 ∧ 2 = 2 ∧ Big.neg y = adN x y ∧ (false = true → false = true) ∧ 1 = 1 ∧ lN q9 = lN q12 ∧ ∀ (i j : Nat), i < lN q12 → j < 1 → kI ∧ gD q12 i Enc.dflt = gD q9 i Enc.dflt) False) False)) False) False) := by
 delta kI lN gD iZ iB aI
 dsimp only
 intro hb
 have e0 : (Enc.dflt : Int) = 0 := rfl
 simp only [↓vc_db, ↓vc_gdb, row_one]
 simp only [sS, dS, e0]
 refine bsplit_iff.2 ⟨fun c => ⟨hx, hy, lx, ly, ?_, fun h => h, ?_, fun i j _ _ => ?_⟩, fun c => ⟨hx, hy, fun h => ⟨hx, hy, lx, ly, (cmpLe hx hy tx ty).1 h, ?_, fun h => h, ?_, fun i j _ _ => ?_⟩, fun h => ⟨hy, hx, ly, lx, ?_, ?_, fun h => h, ?_, fun i j _ _ => ?_⟩⟩⟩
 any_goals (unfold adN; rw [c]; first | rfl | (rw [show leB 0 (cmpL x.l y.l) = true from (leB_iff _ _).2 h]; rfl) | (rw [show leB 0 (cmpL x.l y.l) = false from Bool.eq_false_iff.2 fun e => by have := (leB_iff _ _).1 e; omega]; rfl))
 any_goals (unfold adV; rw [c]; first | rfl | (rw [show leB 0 (cmpL x.l y.l) = true from (leB_iff _ _).2 h]; rfl) | (rw [show leB 0 (cmpL x.l y.l) = false from Bool.eq_false_iff.2 fun e => by have := (leB_iff _ _).1 e; omega]; rfl))
 have := cmpLe hx hy tx ty
 omega
theorem iadd_C (x : Big) (y : Big) (hx : InL 1000000000 x.l) (hy : InL 1000000000 y.l) (tx : trimL x.l = x.l) (ty : trimL y.l = y.l) (lx : x.l.length ≤ 1000000000) (ly : y.l.length ≤ 1000000000) : PureCall Tryz.prog [] 149 [agE x, agE y] (.agg 2 (listFn [.b (adN x y), slE (limbs 1000000000 (adV x y).toNat)])) :=
 pure_of_vc (T := Tad) (an := .auto) mixed Tad_sound (Eq.mp (by kernel_rfl) (iadd_vc x y hx hy tx ty lx ly))
theorem iadd_T : PureT Tryz.prog [] 149 iadd_t := by
 intro xs ps r h hp
 unfold iadd_t at h
 split at h
 ·skip
  rename_i x_x x_y
  cases h
  obtain ⟨q0, q1, q2, q3, q4, q5, q6, q7, -⟩ := allC hp
  exact weaken (ys := [agE (agD (α := Big) x_x), agE (agD (α := Big) x_y)]) ⟨agE_sound q0, agE_sound q1, trivial⟩ (iadd_C (agD (α := Big) x_x) (agD (α := Big) x_y) q2 q3 q4 q5 q6 q7)
 ·cases h
theorem sval_add {x y : Big} (hx : InL 1000000000 x.l) (hy : InL 1000000000 y.l) (tx : trimL x.l = x.l) (ty : trimL y.l = y.l) :
  0 ≤ adV x y ∧ (bif adN x y then - adV x y else adV x y) = sval x.neg x.l + sval y.neg y.l := by
 have v1 := valL_nonneg (b := 1000000000) (by omega) hx
 have v2 := valL_nonneg (b := 1000000000) (by omega) hy
 have c := cmpLe hx hy tx ty
 unfold adN adV sval
 cases hl : leB 0 (cmpL x.l y.l) with
 | true =>
  rw [leB_iff, c] at hl
  cases x.neg <;> cases y.neg <;> simp <;> omega
 | false =>
  have hl : ¬ 0 ≤ cmpL x.l y.l := fun e => by rw [(leB_iff _ _).2 e] at hl; cases hl
  rw [c] at hl
  cases x.neg <;> cases y.neg <;> simp <;> omega
end Go.Te

namespace Go.Te
open Go Go.Sx Go.Proofs Go.Ar
set_option maxRecDepth 100000
set_option maxHeartbeats 4000000
def obInts : OB → List Int
 | .arr _ _ n els => (List.range n).map fun i => AV.int (els i 0)
 | _ => []
theorem obI (l : List Int) : obInts (OB.arr 3 1 l.length fun i x => AV.v (Value.int IntKind.i64 (l.getD i 0))) = l := by
 have e : ((List.range l.length).map fun i => l.getD i 0) = l := by
  apply List.ext_getElem
  ·simp
  ·intro i h1 h2
   rw [List.getElem_map, List.getElem_range, List.getD_eq_getElem?_getD, List.getElem?_eq_getElem h2]
   rfl
 exact e
def itrimO_an  : Ann :=
 .two .auto (.two (.one (.loop Nat (fun σ z => [(0, .ns (blkAt (σ.tm 0)) 0 z)]) (fun σ z => []) 0 (fun σ z => z ≤ (obInts (σ.bl (blkAt (σ.tm 0)))).length ∧ ∀ i, z ≤ i → (obInts (σ.bl (blkAt (σ.tm 0)))).getD i 0 = 0) (fun σ z => z) .auto)) .auto)
theorem trim_exit {l : List Int} {z : Nat} (h1 : z ≤ l.length) (h2 : ∀ i, z ≤ i → l.getD i 0 = 0) (c : (ltB 0 (z : Int) && l.getD ((z : Int) - 1).toNat 0 == 0) = false) : trimL l = l.take z := by
 refine trim_take h1 h2 ?_
 by_cases hz : z = 0
 ·exact .inl hz
 ·refine .inr fun e => ?_
  rw [(ltB_iff _ _).2 (by omega), show ((z : Int) - 1).toNat = z - 1 by omega, e] at c
  cases c
theorem trim_step {l : List Int} {z : Nat} (h2 : ∀ i, z ≤ i → l.getD i 0 = 0) (c : (ltB 0 (z : Int) && l.getD ((z : Int) - 1).toNat 0 == 0) = true) : 0 < z ∧ ∀ i, z - 1 ≤ i → l.getD i 0 = 0 := by
 rw [Bool.and_eq_true, beq_iff_eq, ltB_iff] at c
 have c2 := c.2
 rw [show ((z : Int) - 1).toNat = z - 1 by omega] at c2
 refine ⟨by omega, fun i hi => ?_⟩
 by_cases e : i = z - 1
 ·rw [e]; exact c2
 ·exact h2 i (by omega)
theorem slM {l m : List Int} {z : Nat} (hz : z ≤ m.length) (h : m.take z = l) : avM (AV.xl false 1 z fun i x => AV.v (Value.int IntKind.i64 (m.getD i 0))) (AV.xl false 1 l.length fun i j => AV.v (Value.int IntKind.i64 (l.getD i 0))) := by
 have hl : z = l.length := by rw [← h, List.length_take]; omega
 rw [← hl]
 refine ⟨fun h => h, rfl, rfl, fun i j hi _ => ?_⟩
 rw [← h]
 show avM (AV.v (Value.int IntKind.i64 (m.getD i 0))) (AV.v (Value.int IntKind.i64 ((m.take z).getD i 0)))
 rw [getD_takeN hi]
 exact avM_refl _
noncomputable def Tds : Tb := (T0.plus 212 itrim_t).body Tryz.prog [(239, .auto), (212, itrimO_an)]
theorem Tds_sound : TbSound Tryz.prog Tds := TbSound.body mixed (TbSound.plus tb0_sound itrim_T) _
structure IsS where
 z : Nat
 q : List Int
 r : Int
def ids_it (a : List Int) (d : Int) : Ann :=
 .two .auto (.one (.loop IsS (fun σ z => [(0, σ.tm 0), (1, σ.tm 1), (3, .i ((z.z : Int) - 1))]) (fun _ z => [(2, iArr z.q), (3, .box 3 1 fun _ => .i z.r)]) 0
  (fun _ z => ShZ 1000000000 d a z.z z.q z.r) (fun _ z => z.z) .auto))
def ids_an (a : List Int) (d : Int) : Ann :=
 .two .auto (.two .auto (.two .auto (.two (.two .auto (.one (.range (ids_it a d) .auto .auto))) .auto)))
def idivS_t : List AV → Option (List Cond × AV)
 | [x_a, .v (.int .i64 d)] => some ([.b (slOk Int x_a), .p (InL 1000000000 (intsOf x_a)), .p (0 < d ∧ d ≤ 1000000000), .p ((intsOf x_a).length ≤ 1000000000)], .tup 2 (listFn [slE (limbs 1000000000 ((valL 1000000000 (intsOf x_a)).toNat / d.toNat)), slE (limbs 1000000000 ((valL 1000000000 (intsOf x_a)).toNat % d.toNat))]))
 | _ => none
theorem idivS_vc (a : List Int) (d : Int) (ha : InL 1000000000 a) (hd : 0 < d ∧ d ≤ 1000000000) (hl : a.length ≤ 1000000000) :
 let q1 := ((3 = 3 ∧ 1 = 1 ∧ kI ∧ d = d) ∧ 57 = 57 ∧ 1 = 1 ∧ nat_lit 2 = 2 ∧ 0 = 0 ∧ Int.toNat (lZ a) = Int.toNat (lZ a)); let q2 := (AV.xl false 1 (lN a) fun i j => aI (gD a i Enc.dflt)); let q13 := (limbs 1000000000 (Int.toNat (valL iB a) / Int.toNat d)); let q12 := (AV.xl false 1 (lN q13) fun i j => aI (gD q13 i Enc.dflt)); let q17 := (limbs 1000000000 (Int.toNat (valL iB a) % Int.toNat d)); let q16 := (AV.xl false 1 (lN q17) fun i
 j => aI (gD q17 i Enc.dflt)); bndL [AV.xl false 1 (lN a) fun i j => aI (gD a i Enc.dflt), aI d] → bsplit (DB.db (iZ ≤ (lZ a) ∧ (lZ a) ≤ (lZ a) ∧ (↑8 : Int) * (lZ a) ≤ (140737488355328 : Int))) (bsplit (DB.db (inK .i64 ((lZ a) - iO))) ((∃ (z : IsS), (ShZ iB d a (IsS.z z) (IsS.q z) (IsS.r z) ∧ nat_lit 5 = 5 ∧ (nat_lit 4 = 4 ∧ 0 = 0) ∧ kI ∧ (lZ a) - iO =
 (↑(IsS.z z) : Int) - iO) ∧ (((q1 ∧ (3 : TypeId) = 3 ∧ 1 = 1 ∧ lN (IsS.q z) = Int.toNat (lZ a) ∧ ∀ (i j : Nat), i < Int.toNat (lZ a) → j < 1 → avM (zcell (Value.int .i64 iZ) j) (aI (gD (IsS.q z) i iZ))) ∧ (3 : TypeId) = 3 ∧ 1 = 1 ∧ kI ∧ iZ = IsS.r z) ∧ 57 = 57 ∧ 1 = 1 ∧ avM q2 q2) ∧ LoopState.ready = LoopState.ready ∧ Non Code = Non Code) ∧ ∀ (z : IsS), let q3 := (gD a (Int.toNat ((↑(IsS.z z) : Int) - iO)) Enc.dflt + IsS.r z * iB); let q4 := (Int.tdiv
 q3 d); let q6 := (bsplit (DB.db (inK .i64 ((↑(IsS.z z) : Int) - iO - iO))) (∃ (z' : IsS), ((ShZ iB d a (IsS.z z') (IsS.q z') (IsS.r z') ∧ IsS.z z' < IsS.z z) ∧ nat_lit 5 = 5 ∧ (nat_lit 4 = 4 ∧ 0 = 0) ∧ kI ∧ (↑(IsS.z z) : Int) - iO - iO = (↑(IsS.z z') : Int) - iO) ∧ (((q1 ∧ 3 = 3 ∧ 1 = 1 ∧ lN (IsS.q z') = lN (IsS.q z) ∧ ∀ (i j : Nat), i < lN (IsS.q z) → j < 1 → avM (if i = 0 + Int.toNat ((↑(IsS.z z) : Int) - iO) ∧ 0 ≤ j ∧ j < 1 then aI q4 else aI (List.getD
 (IsS.q z) i iZ)) (aI (gD (IsS.q z') i iZ))) ∧ 3 = 3 ∧ 1 = 1 ∧ kI ∧ Int.tmod q3 d = IsS.r z') ∧ 57 = 57 ∧ 1 = 1 ∧ avM q2 q2) ∧ LoopState.ready = LoopState.ready ∧ Non Code = Non Code) False); let q5 := ((bsplit (DB.db (d ≠ iZ)) q6 False ∧ bsplit (DB.db (d ≠ iZ)) q6 False) ∧ bsplit (DB.db (d ≠ iZ)) q6 False); let q9 := (obInts (OB.arr (3 : TypeId) 1 (lN (IsS.q z)) fun (i x : Nat) => aI (gD (IsS.q z) i iZ))); let q10 := (((q1 ∧ 3 = 3 ∧ 1 = 1 ∧ lN (IsS.q z) = List.length
 (IsS.q z) ∧ ∀ (i j : Nat), i < lN (IsS.q z) → j < 1 → kI ∧ gD (IsS.q z) i iZ = gD (IsS.q z) i iZ) ∧ 3 = 3 ∧ 1 = 1 ∧ kI ∧ IsS.r z = IsS.r z) ∧ 57 = 57 ∧ 1 = 1 ∧ avM q2 q2); let q8 := (∃ (z_1 : Nat), ((z_1 ≤ lN q9 ∧ ∀ (i : Nat), z_1 ≤ i → gD (obInts (OB.arr (3 : TypeId) 1 (lN (IsS.q z)) fun (i x : Nat) => aI (gD (IsS.q z) i iZ))) i iZ = iZ) ∧ nat_lit 2 = 2 ∧ 0 = 0 ∧ z_1 = Int.toNat (lZ a)) ∧ q10 ∧ True); let q15 := (trimL (intsOf (AV.xl
 true 1 1 (Sx.rowAt [fun (x : Nat) => aI (IsS.r z)])))); let q14 := (AV.xl false 1 (lN q15) fun i j => aI (gD q15 i Enc.dflt)); let q7 := (q8 ∧ ∀ (z_1 : Nat), let q11 := (!bsel true (ltB iZ (↑z_1 : Int)) || bsel true (ltB iZ (↑z_1 : Int))); (z_1 ≤ lN q9 ∧ ∀ (i : Nat), z_1 ≤ i → gD (obInts (OB.arr (3 : TypeId) 1 (lN (IsS.q z)) fun (i x : Nat) => aI (gD (IsS.q z) i iZ))) i iZ = iZ) → bsplit q11 (bsplit q11 (bsplit (!bsel true (ltB iZ (↑z_1 : Int)) ||
 DB.db (inK .i64 ((↑z_1 : Int) - iO))) (bsplit q11 (bsplit q11 (bsplit (!bsel true (ltB iZ (↑z_1 : Int)) || DB.db (iZ ≤ (↑z_1 : Int) - iO ∧ (↑z_1 : Int) - iO < (↑z_1 : Int))) (bsplit q11 (bsplit q11 (bsplit (!ltB iZ (↑z_1 : Int) || bsel true (ltB iZ (↑z_1 : Int))) (bsplit (bif ltB iZ (↑z_1 : Int) then gD (IsS.q z) (0 + Int.toNat ((↑z_1 : Int) - iO)) iZ == iZ else false) (bsplit (DB.db (inK .i64 ((↑z_1 : Int) - iO))) (bsplit (DB.db (iZ ≤ (↑z_1 : Int) - iO ∧ (↑z_1 : Int) - iO ≤ (↑z_1 :
 Int))) (∃ (z' : Nat), (((z' ≤ lN q9 ∧ ∀ (i : Nat), z' ≤ i → gD (obInts (OB.arr (3 : TypeId) 1 (lN (IsS.q z)) fun (i x : Nat) => aI (gD (IsS.q z) i iZ))) i iZ = iZ) ∧ z' < z_1) ∧ nat_lit 2 = 2 ∧ 0 = 0 ∧ z' = Int.toNat ((↑z_1 : Int) - iO)) ∧ q10 ∧ True) False) False) (j2 ∧ (True ∧ avM (AV.xl false 1 z_1 fun i j => aI (gD (IsS.q z) (0 + i) iZ)) q12) ∧ avM q14 q16)) False) False) False) False) False) False) False) False) False); ShZ iB d a
 (IsS.z z) (IsS.q z) (IsS.r z) → bsplit (leB iZ ((↑(IsS.z z) : Int) - iO)) (bsplit (DB.db (iZ ≤ (↑(IsS.z z) : Int) - iO ∧ (↑(IsS.z z) : Int) - iO < (lZ a))) (bsplit (DB.db (inK .i64 (IsS.r z * iB))) (bsplit (DB.db (inK .i64 q3)) (bsplit (DB.db (d ≠ iZ)) (bsplit (DB.db (inK .i64 q4)) (bsplit (DB.db (iZ ≤ (↑(IsS.z z) : Int) - iO ∧ (↑(IsS.z z) : Int) - iO < (↑(Int.toNat (lZ a)) : Int))) (q5 ∧ q5 ∧ bsplit (DB.db (d ≠ iZ)) q6 False) False) False) False) False) False) False) (q7 ∧
 q7 ∧ q8 ∧ ∀ (z_1 : Nat), let q18 := (!bsel true (ltB iZ (↑z_1 : Int)) || bsel true (ltB iZ (↑z_1 : Int))); (z_1 ≤ lN q9 ∧ ∀ (i : Nat), z_1 ≤ i → gD (obInts (OB.arr (3 : TypeId) 1 (lN (IsS.q z)) fun (i x : Nat) => aI (gD (IsS.q z) i iZ))) i iZ = iZ) → bsplit q18 (bsplit q18 (bsplit (!bsel true (ltB iZ (↑z_1 : Int)) || DB.db (inK .i64 ((↑z_1 : Int) - iO))) (bsplit q18 (bsplit q18 (bsplit (!bsel true (ltB iZ (↑z_1 : Int)) || DB.db (iZ ≤ (↑z_1 : Int) - iO ∧ (↑z_1 : Int) - (1 :
 Int) < (↑z_1 : Int))) (bsplit q18 (bsplit q18 (bsplit (!ltB iZ (↑z_1 : Int) || bsel true (ltB iZ (↑z_1 : Int))) (bsplit (bif ltB iZ (↑z_1 : Int) then gD (IsS.q z) (0 + Int.toNat ((↑z_1 : Int) - iO)) iZ == iZ else false) (bsplit (DB.db (inK .i64 ((↑z_1 : Int) - iO))) (bsplit (DB.db (iZ ≤ (↑z_1 : Int) - iO ∧ (↑z_1 : Int) - iO ≤ (↑z_1 : Int))) (∃ (z' : Nat), (((z' ≤ lN q9 ∧ ∀ (i : Nat), z' ≤ i → gD (obInts (OB.arr (3 : TypeId) 1 (lN (IsS.q z)) fun (i x : Nat) => aI (List.getD
 (IsS.q z) i iZ))) i iZ = iZ) ∧ z' < z_1) ∧ nat_lit 2 = 2 ∧ 0 = 0 ∧ z' = Int.toNat ((↑z_1 : Int) - iO)) ∧ q10 ∧ True) False) False) (j2 ∧ (True ∧ avM (AV.xl false 1 z_1 fun i j => aI (gD (IsS.q z) (0 + i) iZ)) q12) ∧ avM q14 q16)) False) False) False) False) False) False) False) False) False)) False) False := by
 delta kI j2 lZ lN gD iZ iO iB aI
 dsimp only
 intro hb
 have e0 : (Enc.dflt : Int) = 0 := rfl
 simp only [↓vc_db, ↓vc_gdb, row_one]
 simp only [sS, dS, e0]
 simp only [and_self, obI, implies_true, and_true]
 obtain ⟨d0, d1⟩ := hd
 have va := valL_nonneg (b := 1000000000) (by omega) ha
 refine ⟨⟨by omega, by omega, by omega⟩, ⟨by omega, by omega⟩, ⟨⟨a.length, List.replicate a.length 0, 0⟩, ⟨.start (by omega) d0 a, rfl⟩, ⟨by simp, fun i j _ hj => zeroI _ i j hj⟩, rfl⟩, fun z z1 => ⟨fun hz => ?_, fun hz => ?_⟩⟩
 ·have zle := z1.le
  have zl := z1.len
  have R0 := z1.r0
  have R1 := z1.r1
  have hzk : z.z - 1 + 1 = z.z := by omega
  obtain ⟨⟨n0, n1⟩, hs⟩ := (hzk.symm ▸ z1 : ShZ 1000000000 d a (z.z - 1 + 1) z.q z.r).step (by omega) ha
  have ek : ((z.z : Int) - 1).toNat = z.z - 1 := by omega
  rw [ek]
  have xk := ha.get (by omega) (z.z - 1)
  have q1 := hs.in_.get (by omega) (z.z - 1)
  rw [getD_setI _ _ _ _ (by omega), if_pos rfl] at q1
  generalize a.getD (z.z - 1) 0 + z.r * 1000000000 = N at *
  exact ⟨⟨by omega, by omega⟩, ⟨by omega, by omega⟩, ⟨by omega, by omega⟩, by omega, ⟨by omega, by omega⟩, ⟨by omega, by omega⟩, by omega, ⟨by omega, by omega⟩, ⟨z.z - 1, _, _⟩, ⟨⟨hs, by simp only; omega⟩, by simp only; omega⟩, ⟨by simp, fun i j _ => setI _ _ _ (by omega) i j⟩, rfl⟩
 ·have zl := z1.len
  have hz0 : z.z = 0 := by have := z1.le; omega
  obtain ⟨D, rfl⟩ : ∃ D : Nat, d = D := ⟨d.toNat, by omega⟩
  obtain ⟨X, hX⟩ : ∃ X : Nat, valL 1000000000 a = X := ⟨(valL 1000000000 a).toNat, by omega⟩
  obtain ⟨t1, _, t3⟩ := (hz0 ▸ z1 : ShZ 1000000000 D a 0 z.q z.r).end_ (b := 1000000000) (by omega) (by omega) (by omega) X hX
  rw [hX]
  simp only [Int.toNat_natCast]
  refine ⟨⟨a.length, ⟨by omega, fun i hi => getD_outI (by omega)⟩, rfl⟩, fun k ⟨k1, k2⟩ => ⟨fun h => ?_, fun h => ?_, bsplit_iff.2 ⟨fun c => ?_, fun c => ?_⟩⟩⟩
  ·have := (ltB_iff _ _).1 h; exact ⟨by omega, by omega⟩
  ·have := (ltB_iff _ _).1 h; exact ⟨by omega, by omega⟩
  ·obtain ⟨c1, c2⟩ := trim_step k2 c
   exact ⟨⟨by omega, by omega⟩, ⟨by omega, by omega⟩, k - 1, ⟨⟨by omega, c2⟩, by omega⟩, by omega⟩
  ·have ht := trim_exit k1 k2 c
   refine ⟨rfl, slM k1 (ht.symm.trans t1), ?_⟩
   have er : intsOf (AV.xl true 1 1 fun x j => AV.v (Value.int IntKind.i64 z.r)) = [z.r] := rfl
   rw [er, show trimL [z.r] = limbs 1000000000 (X % D) from t3]
   exact avM_refl _
theorem idivS_C (a : List Int) (d : Int) (ha : InL 1000000000 a) (hd : 0 < d ∧ d ≤ 1000000000) (hl : a.length ≤ 1000000000) : PureCall Tryz.prog [] 252 [slE a, .i d] (.tup 2 (listFn [slE (limbs 1000000000 ((valL 1000000000 a).toNat / d.toNat)), slE (limbs 1000000000 ((valL 1000000000 a).toNat % d.toNat))])) :=
 pure_of_vc (T := Tds) (an := ids_an a d) mixed Tds_sound (Eq.mp (by kernel_rfl) (idivS_vc a d ha hd hl))
theorem idivS_T : PureT Tryz.prog [] 252 idivS_t := by
 intro xs ps r h hp
 unfold idivS_t at h
 split at h
 ·skip
  rename_i x_a d
  cases h
  obtain ⟨q0, q1, q2, q3, -⟩ := allC hp
  exact weaken (ys := [slE (intsOf x_a), .i d]) ⟨slE_sound q0, avM_refl _, trivial⟩ (idivS_C (intsOf x_a) d q1 q2 q3)
 ·cases h
def estR (b u2 v1 v2 : Int) : Nat → Int → Int → Int
 | 0, q, _ => q
 | n + 1, q, r => bif leB b q || (ltB r b && ltB (r * b + u2) (q * v2)) then (bif leB b (r + v1) then q - 1 else estR b u2 v1 v2 n (q - 1) (r + v1)) else q
def estF (b : Int) (u v : List Int) (j : Nat) : Int :=
 estR b (u.getD (j + v.length - 2) 0) (v.getD (v.length - 1) 0) (v.getD (v.length - 2) 0) ((u.getD (j + v.length) 0 * b + u.getD (j + v.length - 1) 0).tdiv (v.getD (v.length - 1) 0)).toNat
  ((u.getD (j + v.length) 0 * b + u.getD (j + v.length - 1) 0).tdiv (v.getD (v.length - 1) 0)) ((u.getD (j + v.length) 0 * b + u.getD (j + v.length - 1) 0).tmod (v.getD (v.length - 1) 0))
structure EsS where
 q : Int
 r : Int
def iest_an (u v : List Int) (j : Int) : Ann :=
 .two .auto (.two .auto (.two .auto (.two .auto (.two (.one (.loop EsS (fun σ z => [(0, σ.tm 0), (1, σ.tm 1), (2, σ.tm 2), (7, σ.tm 7), (9, .i z.q), (10, .i z.r)]) (fun σ z => []) 0 (fun σ z => 0 ≤ z.q ∧ z.q ≤ 2000000000 ∧ 0 ≤ z.r ∧ z.r < 1000000000 ∧ estR 1000000000 (u.getD (j.toNat + v.length - 2) 0) (v.getD (v.length - 1) 0) (v.getD (v.length - 2) 0) z.q.toNat z.q z.r = estF 1000000000 u v j.toNat) (fun σ z => z.q.toNat) .auto)) .auto))))
def iest_t : List AV → Option (List Cond × AV)
 | [x_u, x_v, .v (.int .i64 j)] => some ([.b (slOk Int x_u), .b (slOk Int x_v), .p (InL 1000000000 (intsOf x_u)), .p (InL 1000000000 (intsOf x_v)), .p (2 ≤ (intsOf x_v).length), .p ((intsOf x_v).length ≤ 1000000000), .p (0 ≤ j ∧ j + (intsOf x_v).length < (intsOf x_u).length), .p (0 < (intsOf x_v).getD ((intsOf x_v).length - 1) 0), .p ((intsOf x_u).getD (j.toNat + (intsOf x_v).length) 0 ≤ (intsOf x_v).getD ((intsOf x_v).length - 1) 0)], .i (estF 1000000000 (intsOf x_u) (intsOf x_v) j.toNat))
 | _ => none
theorem iest_vc (u : List Int) (v : List Int) (j : Int) (hu : InL 1000000000 u) (hv : InL 1000000000 v) (hn : 2 ≤ v.length) (hl : v.length ≤ 1000000000) (hj : 0 ≤ j ∧ j + v.length < u.length) (h1 : 0 < v.getD (v.length - 1) 0) (hc : u.getD (j.toNat + v.length) 0 ≤ v.getD (v.length - 1) 0) :
 let q2 := (inK .i64 (j + (lZ v))); let q1 := (DB.db q2); let q3 := (Int.toNat (j + (lZ v))); let q4 := (j + (lZ v) - iO); let q5 := (gD u q3 Enc.dflt * iB + gD u (Int.toNat q4) Enc.dflt); let q6 := (DB.db (inK .i64 ((lZ v) - iO))); let q7 := (DB.db (iZ ≤ (lZ v) - iO ∧ (lZ v) - iO < (lZ v))); let q9 := (Int.toNat ((lZ v) - iO)); let q8 := (DB.db (gD v q9 Enc.dflt ≠ (0 :
 Int))); let q10 := (gD v q9 Enc.dflt); let q11 := (gD u (Int.toNat j + lN v - 2) iZ); let q12 := (gD v (lN v - 1) iZ); let q13 := (gD v (lN v - 2) iZ); let q14 := (AV.xl false 1 (lN u) fun i j => aI (gD u i Enc.dflt)); let q15 := (AV.xl false 1 (lN v) fun i j => aI (gD v i Enc.dflt)); let q16 := (kI ∧ (lZ v) = (lZ v)); let q21 := (j + (lZ v) - (2 : Int)); bndL [AV.xl false 1
 (lN u) fun i j => aI (gD u i Enc.dflt), AV.xl false 1 (lN v) fun i j => aI (gD v i Enc.dflt), aI j] → bsplit q1 (bsplit (DB.db (iZ ≤ j + (lZ v) ∧ j + (lZ v) < (lZ u))) (bsplit (DB.db (inK .i64 (gD u q3 Enc.dflt * iB))) (bsplit q1 (bsplit (DB.db (inK .i64 q4)) (bsplit (DB.db (iZ ≤ j + (lZ v) - iO ∧ j + (lZ v) - iO < (lZ u))) (bsplit (DB.db (inK .i64
 q5)) (bsplit q6 (bsplit q7 (bsplit q8 (bsplit (DB.db (inK .i64 (Int.tdiv q5 q10))) (bsplit q6 (bsplit q7 (bsplit q8 ((∃ (z : EsS), ((iZ ≤ EsS.q z ∧ EsS.q z ≤ (2000000000 : Int) ∧ iZ ≤ EsS.r z ∧ EsS.r z < iB ∧ estR iB q11 q12 q13 (Int.toNat (EsS.q z)) (EsS.q z) (EsS.r z) = estF iB u v (Int.toNat j)) ∧ avM q14 q14 ∧ avM q15 q15 ∧ (kI ∧ j = j) ∧ q16 ∧ (kI ∧ Int.tdiv q5 q10 = EsS.q z) ∧ kI ∧ Int.tmod q5 q10 = EsS.r z) ∧ True) ∧ ∀ (z : EsS), let q17 := (!bsel false (leB iB
 (EsS.q z)) || bsel false (leB iB (EsS.q z))); let q19 := (bsel false (leB iB (EsS.q z)) && bsel true (ltB (EsS.r z) iB)); let q18 := (!q19 || bsel false (leB iB (EsS.q z)) && bsel true (ltB (EsS.r z) iB)); let q20 := (EsS.q z * gD v (Int.toNat ((lZ v) - (2 : Int))) Enc.dflt); let q22 := (EsS.r z * iB + gD u (Int.toNat q21) Enc.dflt); let q23 := (EsS.r z + gD v q9 Enc.dflt); iZ ≤ EsS.q z ∧ EsS.q z ≤ (2000000000 : Int) ∧ iZ ≤ EsS.r z ∧ EsS.r z <
 iB ∧ estR iB q11 q12 q13 (Int.toNat (EsS.q z)) (EsS.q z) (EsS.r z) = estF iB u v (Int.toNat j) → bsplit q17 (bsplit q17 (bsplit q18 (bsplit (!q19 || DB.db (inK .i64 ((lZ v) - (2 : Int)))) (bsplit q18 (bsplit q18 (bsplit (!q19 || DB.db (iZ ≤ (lZ v) - (2 : Int) ∧ (lZ v) - (2 : Int) < (lZ v))) (bsplit q18 (bsplit q18 (bsplit q18 (bsplit (!q19 || DB.db (inK .i64 q20)) (bsplit q18 (bsplit (!q19 || DB.db (inK .i64 (EsS.r z * iB))) (bsplit q18 (bsplit q18
 (bsplit (!q19 || DB.db q2) (bsplit q18 (bsplit (!q19 || DB.db (inK .i64 q21)) (bsplit q18 (bsplit q18 (bsplit (!q19 || DB.db (iZ ≤ j + (lZ v) - (2 : Int) ∧ j + (lZ v) - (2 : Int) < (lZ u))) (bsplit q18 (bsplit q18 (bsplit q18 (bsplit (!q19 || DB.db (inK .i64 q22)) (bsplit q18 (bsplit q18 (bsplit q17 (bsplit (!bsel false (leB iB (EsS.q z)) || (!ltB (EsS.r z) iB || bsel false (leB iB (EsS.q z)) && bsel true (ltB (EsS.r z) iB))) (bsplit (!!leB iB (EsS.q z) ||
 bsel false (leB iB (EsS.q z))) (bsplit (bif leB iB (EsS.q z) then true else bif ltB (EsS.r z) iB then ltB q22 q20 else false) (bsplit (DB.db (inK .i64 (EsS.q z - iO))) (bsplit q6 (bsplit q7 (bsplit (DB.db (inK .i64 q23)) (bsplit (leB iB q23) (kI ∧ EsS.q z - iO = estF iB u v (Int.toNat j)) (∃ (z' : EsS), (((iZ ≤ EsS.q z' ∧ EsS.q z' ≤ (2000000000 : Int) ∧ iZ ≤ EsS.r z' ∧ EsS.r z' < iB ∧ estR iB q11 q12 q13 (Int.toNat (EsS.q z')) (EsS.q z')
 (EsS.r z') = estF iB u v (Int.toNat j)) ∧ Int.toNat (EsS.q z') < Int.toNat (EsS.q z)) ∧ avM q14 q14 ∧ avM q15 q15 ∧ (kI ∧ j = j) ∧ q16 ∧ (kI ∧ EsS.q z - iO = EsS.q z') ∧ kI ∧ EsS.r z + gD v q9 Enc.dflt = EsS.r z') ∧ True)) False) False) False) False) (kI ∧ EsS.q z = estF iB u v (Int.toNat j))) False) False) False) False) False) False) False) False) False) False) False) False) False) False) False) False) False) False) False) False) False) False) False) False) False) False) False) False)
 False) False) False) False) False) False) False) False) False) False) False) False) False) False) False) False := by
 delta kI lZ lN gD iZ iO iB aI
 dsimp only
 intro hb
 have e0 : (Enc.dflt : Int) = 0 := rfl
 simp only [↓vc_db, ↓vc_gdb, row_one]
 simp only [sS, dS, e0]
 have hu1 : u.length ≤ 9223372036854775807 := hb.1.1
 have en : ((v.length : Int) - 1).toNat = v.length - 1 := by omega
 have en2 : ((v.length : Int) - 2).toNat = v.length - 2 := by omega
 have ej : (j + (v.length : Int)).toNat = j.toNat + v.length := by omega
 have ej1 : (j + (v.length : Int) - 1).toNat = j.toNat + v.length - 1 := by omega
 have ej2 : (j + (v.length : Int) - 2).toNat = j.toNat + v.length - 2 := by omega
 rw [en, en2, ej, ej1, ej2]
 have hF : estF 1000000000 u v j.toNat = estR 1000000000 (u.getD (j.toNat + v.length - 2) 0) (v.getD (v.length - 1) 0) (v.getD (v.length - 2) 0) ((u.getD (j.toNat + v.length) 0 * 1000000000 + u.getD (j.toNat + v.length - 1) 0).tdiv (v.getD (v.length - 1) 0)).toNat
  ((u.getD (j.toNat + v.length) 0 * 1000000000 + u.getD (j.toNat + v.length - 1) 0).tdiv (v.getD (v.length - 1) 0)) ((u.getD (j.toNat + v.length) 0 * 1000000000 + u.getD (j.toNat + v.length - 1) 0).tmod (v.getD (v.length - 1) 0)) := rfl
 rw [hF]
 have u0 := hu.get (by omega) (j.toNat + v.length)
 have u1 := hu.get (by omega) (j.toNat + v.length - 1)
 have u2 := hu.get (by omega) (j.toNat + v.length - 2)
 have w1 := hv.get (by omega) (v.length - 1)
 have w2 := hv.get (by omega) (v.length - 2)
 clear hF
 generalize u.getD (j.toNat + v.length) 0 = a0 at *
 generalize u.getD (j.toNat + v.length - 1) 0 = a1 at *
 generalize u.getD (j.toNat + v.length - 2) 0 = a2 at *
 generalize v.getD (v.length - 1) 0 = b1 at *
 generalize v.getD (v.length - 2) 0 = b2 at *
 obtain ⟨e, m0, m1, q0⟩ := tdm (n := a0 * 1000000000 + a1) (b := b1) (by omega) h1
 have qle : (a0 * 1000000000 + a1).tdiv b1 ≤ 2000000000 := by
  refine Decidable.byContradiction fun hn => ?_
  have t1 : b1 * 2000000001 ≤ b1 * (a0 * 1000000000 + a1).tdiv b1 := Int.mul_le_mul_of_nonneg_left (by omega) (by omega)
  omega
 generalize (a0 * 1000000000 + a1).tdiv b1 = q at *
 generalize (a0 * 1000000000 + a1).tmod b1 = r at *
 obtain ⟨E, hE⟩ : ∃ E, estR 1000000000 a2 b1 b2 q.toNat q r = E := ⟨_, rfl⟩
 rw [hE]
 refine ⟨⟨by omega, by omega⟩, ⟨by omega, by omega⟩, ⟨by omega, by omega⟩, ⟨by omega, by omega⟩, ⟨by omega, by omega⟩, ⟨by omega, by omega⟩, ⟨by omega, by omega⟩, ⟨by omega, by omega⟩, ⟨by omega, by omega⟩, by omega, ⟨by omega, by omega⟩, ⟨by omega, by omega⟩, ⟨by omega, by omega⟩, by omega, ⟨⟨q, r⟩, ⟨q0, qle, m0, by simp only; omega, hE⟩, rfl, rfl⟩, fun ⟨Q, R⟩ ⟨z1, z2, z3, z4, z5⟩ => ?_⟩
 simp only at z1 z2 z3 z4 z5 ⊢
 have p0 : 0 ≤ Q * b2 := Int.mul_nonneg z1 w2.1
 have p1 : Q * b2 ≤ Q * 1000000000 := Int.mul_le_mul_of_nonneg_left (by omega) z1
 refine ⟨fun _ => ⟨by omega, by omega⟩, fun _ => ⟨by omega, by omega⟩, fun _ => ⟨by omega, by omega⟩, fun _ => ⟨by omega, by omega⟩, fun _ => ⟨by omega, by omega⟩, fun _ => ⟨by omega, by omega⟩, fun _ => ⟨by omega, by omega⟩, fun _ => ⟨by omega, by omega⟩, ?_⟩
 refine bsp_t (by cases leB 1000000000 Q <;> cases ltB R 1000000000 <;> rfl) ?_
 refine bsplit_iff.2 ⟨fun c => ?_, fun c => ?_⟩
 ·have hQ : 0 < Q := by
   rw [Bool.or_eq_true, leB_iff, Bool.and_eq_true, ltB_iff, ltB_iff] at c
   rcases c with c | c
   ·omega
   ·refine Decidable.byContradiction fun hn => ?_
    have : Q = 0 := by omega
    rw [this, Int.zero_mul] at c
    omega
  obtain ⟨n, hn⟩ : ∃ n : Nat, Q.toNat = n + 1 := ⟨Q.toNat - 1, by omega⟩
  rw [hn] at z5 ⊢
  unfold estR at z5
  rw [c, cond_true] at z5
  have hn2 : (Q - 1).toNat = n := by omega
  refine ⟨⟨by omega, by omega⟩, ⟨by omega, by omega⟩, ⟨by omega, by omega⟩, ⟨by omega, by omega⟩, fun h => ?_, fun h => ⟨⟨Q - 1, R + b1⟩, ⟨⟨by simp only; omega, by simp only; omega, by simp only; omega, h, ?_⟩, by simp only; omega⟩, rfl, rfl⟩⟩
  ·rw [(leB_iff _ _).2 h] at z5; exact z5
  ·rw [show leB 1000000000 (R + b1) = false from Bool.eq_false_iff.2 fun e => by have := (leB_iff _ _).1 e; omega] at z5
   rw [← z5]
   simp only [hn2, cond_false]
 ·rw [← z5]
  cases hQ : Q.toNat with
  | zero => rfl
  | succ n => unfold estR; rw [c]; rfl
theorem iest_C (u : List Int) (v : List Int) (j : Int) (hu : InL 1000000000 u) (hv : InL 1000000000 v) (hn : 2 ≤ v.length) (hl : v.length ≤ 1000000000) (hj : 0 ≤ j ∧ j + v.length < u.length) (h1 : 0 < v.getD (v.length - 1) 0) (hc : u.getD (j.toNat + v.length) 0 ≤ v.getD (v.length - 1) 0) : PureCall Tryz.prog [] 253 [slE u, slE v, .i j] (.i (estF 1000000000 u v j.toNat)) :=
 pure_of_vc (T := T0) (an := iest_an u v j) mixed tb0_sound (Eq.mp (by kernel_rfl) (iest_vc u v j hu hv hn hl hj h1 hc))
theorem iest_T : PureT Tryz.prog [] 253 iest_t := by
 intro xs ps r h hp
 unfold iest_t at h
 split at h
 ·skip
  rename_i x_u x_v j
  cases h
  obtain ⟨q0, q1, q2, q3, q4, q5, q6, q7, q8, -⟩ := allC hp
  exact weaken (ys := [slE (intsOf x_u), slE (intsOf x_v), .i j]) ⟨slE_sound q0, slE_sound q1, avM_refl _, trivial⟩ (iest_C (intsOf x_u) (intsOf x_v) j q2 q3 q4 q5 q6 q7 q8)
 ·cases h
noncomputable def Ttf : Tb := (T0.plus 237 ilimb_t).body Tryz.prog [(212, itrimO_an)]
theorem Ttf_sound : TbSound Tryz.prog Ttf := TbSound.body mixed (TbSound.plus tb0_sound ilimb_T) _
def prL (x y : List Int) : List Int := limbs 1000000000 (valL 1000000000 x * valL 1000000000 y).toNat
theorem itimF_vc (x y : List Int) (hx : InL 1000000000 x) (hy : InL 1000000000 y) (hlx : x.length ≤ 1000000000) (hly : y.length ≤ 1000000000) :
 let q1 := ((lZ x) + (lZ y) + iO); let q2 := (AV.xl false 1 (lN y) fun i j => aI (gD y i Enc.dflt)); let q3 := (nat_lit 0 = 0 ∧ 0 = 0 ∧ Int.toNat q1 = Int.toNat q1); let q4 := (AV.xl false 1 (lN x) fun i j => aI (gD x i Enc.dflt)); let q5 := (kI ∧ (lZ x) = (lZ x)); let q9 := (kI ∧ (lZ y) + iO = (lZ y) + iO); let q13 := (intsOf q2); bndL [AV.xl false 1 (lN x)
 fun i j => aI (gD x i Enc.dflt), AV.xl false 1 (lN y) fun i j => aI (gD y i Enc.dflt)] → bsplit (DB.db (inK .i64 ((lZ x) + (lZ y)))) (bsplit (DB.db (inK .i64 q1)) (bsplit (DB.db (iZ ≤ (lZ x) + (lZ y) + iO ∧ (lZ x) + (lZ y) + iO ≤ (lZ x) + (lZ y) + iO ∧ (↑8 : Int) * q1 ≤ (140737488355328 : Int))) ((∃ (z : MlZ), ((MulZ iB x y (MlZ.i z) (MlZ.out z) ∧
 MlZ.i z ≤ lN x) ∧ avM q2 q2 ∧ q3 ∧ avM q4 q4 ∧ q5 ∧ kI ∧ iZ = (↑(MlZ.i z) : Int)) ∧ (3 : TypeId) = 3 ∧ 1 = 1 ∧ lN (MlZ.out z) = Int.toNat q1 ∧ ∀ (i j : Nat), i < Int.toNat q1 → j < 1 → avM (zcell (Value.int .i64 iZ) j) (aI (gD (MlZ.out z) i iZ))) ∧ ∀ (z : MlZ), let q6 := (Int.toNat (AV.int (aI (↑(MlZ.i z) : Int)))); let q7 := (kI ∧ (↑(MlZ.i z) : Int) = (↑(MlZ.i z) : Int)); let q8 := (kI ∧ gD x (Int.toNat (↑(MlZ.i z) : Int)) Enc.dflt = gD x (Int.toNat
 (↑(MlZ.i z) : Int)) Enc.dflt); let q16 := (obInts (OB.arr (3 : TypeId) 1 (lN (MlZ.out z)) fun (i x : Nat) => aI (gD (MlZ.out z) i iZ))); MulZ iB x y (MlZ.i z) (MlZ.out z) ∧ MlZ.i z ≤ lN x → bsplit (ltB (↑(MlZ.i z) : Int) (lZ x)) (bsplit (DB.db (iZ ≤ (↑(MlZ.i z) : Int) ∧ (↑(MlZ.i z) : Int) < (lZ x))) (bsplit (DB.db (inK .i64 ((lZ y) + iO))) ((∃ (z_1 : MlK), ((MulK iB x y q6 (MlK.k z_1) (MlK.out z_1) (MlK.c z_1) ∧ MlK.k z_1 ≤ lN y + 1 ∧
 (MlK.k z_1 = lN y + 1 → MlK.c z_1 = iZ)) ∧ avM q2 q2 ∧ q3 ∧ q7 ∧ q8 ∧ avM q4 q4 ∧ q5 ∧ q7 ∧ q9 ∧ (kI ∧ iZ = MlK.c z_1) ∧ kI ∧ iZ = (↑(MlK.k z_1) : Int)) ∧ 3 = 3 ∧ 1 = 1 ∧ lN (MlK.out z_1) = lN (MlZ.out z) ∧ ∀ (i j : Nat), i < lN (MlZ.out z) → j < 1 → kI ∧ gD (MlZ.out z) i iZ = gD (MlK.out z_1) i iZ) ∧ ∀ (z_1 : MlK), let q11 := ((↑(MlZ.i z) : Int) + (↑(MlK.k z_1) : Int)); let q10 := (DB.db (inK .i64 q11)); let q12 := (DB.db (iZ ≤ (↑(MlZ.i z) : Int) +
 (↑(MlK.k z_1) : Int) ∧ (↑(MlZ.i z) : Int) + (↑(MlK.k z_1) : Int) < (↑(Int.toNat q1) : Int))); let q14 := (0 + Int.toNat q11); let q15 := (gD (MlK.out z_1) q14 iZ + gD x (Int.toNat (↑(MlZ.i z) : Int)) Enc.dflt * gD q13 (Int.toNat (↑(MlK.k z_1) : Int)) iZ + MlK.c z_1); MulK iB x y q6 (MlK.k z_1) (MlK.out z_1) (MlK.c z_1) ∧ MlK.k z_1 ≤ lN y + 1 ∧ (MlK.k z_1 = lN y + 1 → MlK.c z_1 = iZ) → bsplit (ltB (↑(MlK.k z_1) : Int) ((lZ y) + iO)) (bsplit q10 (bsplit q12 (bsplit (slOk Int q2) (iZ ≤
 (↑(MlK.k z_1) : Int) ∧ bsplit (DB.db (inK .i64 (gD x (Int.toNat (↑(MlZ.i z) : Int)) Enc.dflt * gD q13 (Int.toNat (↑(MlK.k z_1) : Int)) iZ))) (bsplit (DB.db (inK .i64 (gD (MlK.out z_1) q14 iZ + gD x (Int.toNat (↑(MlZ.i z) : Int)) Enc.dflt * gD q13 (Int.toNat (↑(MlK.k z_1) : Int)) iZ))) (bsplit (DB.db (inK .i64 q15)) (bsplit q10 (bsplit (DB.db (inK .i64 (Int.tdiv q15 iB))) (bsplit q12 (bsplit (DB.db (inK .i64 ((↑(MlK.k z_1) : Int) + iO))) (∃ (z' : MlK), (((MulK iB x y q6 (MlK.k z') (MlK.out z') (MlK.c
 z') ∧ MlK.k z' ≤ lN y + 1 ∧ (MlK.k z' = lN y + 1 → MlK.c z' = iZ)) ∧ lN y + 1 - MlK.k z' < lN y + 1 - MlK.k z_1) ∧ avM q2 q2 ∧ q3 ∧ q7 ∧ q8 ∧ avM q4 q4 ∧ q5 ∧ q7 ∧ q9 ∧ (kI ∧ Int.tdiv q15 iB = MlK.c z') ∧ kI ∧ (↑(MlK.k z_1) : Int) + iO = (↑(MlK.k z') : Int)) ∧ 3 = 3 ∧ 1 = 1 ∧ lN (MlK.out z') = lN (MlK.out z_1) ∧ ∀ (i j : Nat), i < lN (MlK.out z_1) → j < 1 → avM (if i = 0 + Int.toNat q11 ∧ 0 ≤ j ∧ j < 1 then aI (Int.tmod q15 iB) else AV.v
 (Value.int .i64 (gD (MlK.out z_1) i iZ))) (aI (gD (MlK.out z') i iZ))) False) False) False) False) False) False) False) False) False) False) (bsplit (DB.db (inK .i64 ((↑(MlZ.i z) : Int) + iO))) (∃ (z' : MlZ), (((MulZ iB x y (MlZ.i z') (MlZ.out z') ∧ MlZ.i z' ≤ lN x) ∧ lN x - MlZ.i z' < lN x - MlZ.i z) ∧ avM q2 q2 ∧ q3 ∧ avM q4 q4 ∧ q5 ∧ kI ∧ (↑(MlZ.i z) : Int) + iO = (↑(MlZ.i z') : Int)) ∧ 3 = 3 ∧ 1 = 1 ∧ lN (MlZ.out z') = lN (MlK.out z_1) ∧ ∀ (i j : Nat), i
 < lN (MlK.out z_1) → j < 1 → kI ∧ gD (MlK.out z_1) i iZ = gD (MlZ.out z') i iZ) False)) False) False) ((∃ (z_1 : Nat), ((z_1 ≤ lN q16 ∧ ∀ (i : Nat), z_1 ≤ i → gD (obInts (OB.arr (3 : TypeId) 1 (lN (MlZ.out z)) fun (i x : Nat) => aI (gD (MlZ.out z) i iZ))) i iZ = iZ) ∧ nat_lit 0 = 0 ∧ 0 = 0 ∧ z_1 = Int.toNat q1) ∧ 3 = 3 ∧ 1 = 1 ∧ lN (MlZ.out z) = lN (MlZ.out z) ∧ ∀ (i j : Nat), i < lN (MlZ.out z) → j < 1 → kI ∧ gD (MlZ.out
 z) i iZ = gD (MlZ.out z) i iZ) ∧ ∀ (z_1 : Nat), let q17 := (!bsel true (ltB iZ (↑z_1 : Int)) || bsel true (ltB iZ (↑z_1 : Int))); (z_1 ≤ lN q16 ∧ ∀ (i : Nat), z_1 ≤ i → gD (obInts (OB.arr (3 : TypeId) 1 (lN (MlZ.out z)) fun (i x : Nat) => aI (gD (MlZ.out z) i iZ))) i iZ = iZ) → bsplit q17 (bsplit q17 (bsplit (!bsel true (ltB iZ (↑z_1 : Int)) || DB.db (inK .i64 ((↑z_1 : Int) - iO))) (bsplit q17 (bsplit q17 (bsplit (!bsel true (ltB iZ (↑z_1 : Int)) || DB.db (iZ ≤
 (↑z_1 : Int) - iO ∧ (↑z_1 : Int) - iO < (↑z_1 : Int))) (bsplit q17 (bsplit q17 (bsplit (!ltB iZ (↑z_1 : Int) || bsel true (ltB iZ (↑z_1 : Int))) (bsplit (bif ltB iZ (↑z_1 : Int) then gD (MlZ.out z) (0 + Int.toNat ((↑z_1 : Int) - iO)) iZ == iZ else false) (bsplit (DB.db (inK .i64 ((↑z_1 : Int) - iO))) (bsplit (DB.db (iZ ≤ (↑z_1 : Int) - iO ∧ (↑z_1 : Int) - iO ≤ (↑z_1 : Int))) (∃ (z' : Nat), (((z' ≤ lN q16 ∧ ∀ (i : Nat), z' ≤ i → gD (obInts (OB.arr (3 : TypeId) 1 (lN (MlZ.out z))
 fun (i x : Nat) => aI (gD (MlZ.out z) i iZ))) i iZ = iZ) ∧ z' < z_1) ∧ nat_lit 0 = 0 ∧ 0 = 0 ∧ z' = Int.toNat ((↑z_1 : Int) - iO)) ∧ 3 = 3 ∧ 1 = 1 ∧ lN (MlZ.out z) = lN (MlZ.out z) ∧ ∀ (i j : Nat), i < lN (MlZ.out z) → j < 1 → kI ∧ gD (MlZ.out z) i iZ = gD (MlZ.out z) i iZ) False) False) (3 = 3 ∧ 1 = 1 ∧ z_1 = lN (prL x y) ∧ ∀ (i j : Nat), i < lN (prL x y) → j < 1 → kI ∧ gD (MlZ.out z) i iZ = gD (prL x y) i (0 :
 Int))) False) False) False) False) False) False) False) False) False)) False) False) False := by
 delta kI lZ lN gD iZ iO iB aI
 dsimp only
 intro hb
 have e0 : (Enc.dflt : Int) = 0 := rfl
 simp only [↓vc_db, ↓vc_gdb, row_one]
 simp only [sS, dS, e0, obI, implies_true, and_true]
 have en : ((x.length : Int) + (y.length : Int) + 1).toNat = x.length + y.length + 1 := by omega
 rw [en]
 refine ⟨⟨by omega, by omega⟩, ⟨by omega, by omega⟩, ⟨by omega, Int.le_refl _, by omega⟩, ⟨⟨0, List.replicate (x.length + y.length + 1) 0⟩, ⟨⟨.zero_ (by omega) _ _, Nat.zero_le _⟩, rfl⟩, by simp, fun i j _ hj => zeroI _ i j hj⟩, fun z ⟨z1, z2⟩ => ⟨fun hz => ⟨⟨by omega, hz⟩, ⟨by omega, by omega⟩, ⟨⟨0, 0, z.out⟩, ⟨⟨z1.start (by omega), Nat.zero_le _, fun h => rfl⟩, rfl, rfl⟩, rfl, fun _ _ _ _ => rfl⟩, fun w ⟨w1, w2, w3⟩ => ⟨fun hk0 => ?_, fun hk0 => ?_⟩⟩, fun hz => ?_⟩⟩
 ·have hz' : z.i < x.length := by omega
  have w4 := w1.len
  have hk : w.k ≤ y.length := by omega
  have ek : ((z.i : Int) + (w.k : Int)).toNat = z.i + w.k := by omega
  rw [ek]
  obtain ⟨⟨n0, n1⟩, hs⟩ := w1.step (by omega) hx hy hz' hk
  have g1 := hx.get (by omega) z.i
  have g2 := hy.get (by omega) w.k
  have g3 := w1.in_.get (by omega) (z.i + w.k)
  have c0 := w1.c0
  have c1 := w1.c1
  have p0 : 0 ≤ x.getD z.i 0 * y.getD w.k 0 := Int.mul_nonneg g1.1 g2.1
  have d0 := hs.c0
  have d1 := hs.c1
  refine ⟨⟨by omega, by omega⟩, ⟨by omega, by omega⟩, by omega, ⟨by omega, by omega⟩, ⟨by omega, by omega⟩, ⟨by omega, by omega⟩, ⟨by omega, by omega⟩, ⟨by omega, by omega⟩, ⟨by omega, by omega⟩, ⟨by omega, by omega⟩, ⟨w.k + 1, _, _⟩, ⟨⟨⟨hs, by simp only; omega, fun h => ?_⟩, by simp only; omega⟩, rfl, rfl⟩, by simp, fun i j _ => setI _ _ _ (by omega) i j⟩
  have hk' : w.k = y.length := by simp only at h; omega
  have := (hk' ▸ w1 : MulK 1000000000 x y z.i y.length w.out w.c).last (by omega)
  rw [← hk'] at this
  exact this
 ·have c0 := w1.c0
  have hc := w3 (by omega)
  exact ⟨⟨by omega, by omega⟩, ⟨z.i + 1, w.out⟩, ⟨⟨⟨w1.fin (by omega) w2 hc, by simp only; omega⟩, by simp only; omega⟩, rfl⟩, rfl, fun _ _ _ _ => rfl⟩
 ·have hz' : z.i = x.length := by omega
  have zl := z1.len
  have he := (hz' ▸ z1 : MulZ 1000000000 x y x.length z.out).end_ (b := 1000000000) (by omega)
  refine ⟨⟨x.length + y.length + 1, ⟨by omega, fun i hi => getD_outI (by omega)⟩, rfl⟩, fun k ⟨k1, k2⟩ => ⟨fun h => ?_, fun h => ?_, bsplit_iff.2 ⟨fun c => ?_, fun c => ?_⟩⟩⟩
  ·have := (ltB_iff _ _).1 h; exact ⟨by omega, by omega⟩
  ·have := (ltB_iff _ _).1 h; exact ⟨by omega, by omega⟩
  ·obtain ⟨c1, c2⟩ := trim_step k2 c
   exact ⟨⟨by omega, by omega⟩, ⟨by omega, by omega⟩, k - 1, ⟨⟨by omega, c2⟩, by omega⟩, by omega⟩
  ·have ht := trim_exit k1 k2 c
   have hp : z.out.take k = prL x y := ht.symm.trans he
   have hkl : k = (prL x y).length := by rw [← hp, List.length_take]; omega
   exact ⟨hkl, fun i j hi _ => by rw [← hp, getD_takeN (by omega)]⟩
theorem itimF_C {x y : List Int} (hx : InL 1000000000 x) (hy : InL 1000000000 y) (hlx : x.length ≤ 1000000000) (hly : y.length ≤ 1000000000) : FreshCall Tryz.prog [] 203 [slE x, slE y] 3 1 (prL x y).length (fun i _ => .i ((prL x y).getD i 0)) :=
 fresh_of_vc mixed Ttf_sound (Eq.mp (by kernel_rfl) (itimF_vc x y hx hy hlx hly) : vcFresh Tryz.prog Ttf 203 (itimes_an x y) [slE x, slE y] 3 1 (prL x y).length (fun i _ => .i ((prL x y).getD i 0)))
def itimF_t : List AV → Option (List Cond × TypeId × Nat × Nat × (Nat → Nat → AV))
 | [x, y] => some ([.b (slOk Int x), .b (slOk Int y), .p (InL 1000000000 (intsOf x)), .p (InL 1000000000 (intsOf y)), .p ((intsOf x).length ≤ 1000000000), .p ((intsOf y).length ≤ 1000000000)], 3, 1, (prL (intsOf x) (intsOf y)).length, fun i _ => .i ((prL (intsOf x) (intsOf y)).getD i 0))
 | _ => none
theorem itimF_T : FreshT Tryz.prog [] 203 itimF_t := by
 intro xs ps ty sz len els h hp
 unfold itimF_t at h
 split at h
 ·rename_i x y
  cases h
  have q0 : slOk Int x = true := hp (.b (slOk Int x)) (by simp)
  have q1 : slOk Int y = true := hp (.b (slOk Int y)) (by simp)
  have q2 : InL 1000000000 (intsOf x) := hp (.p (InL 1000000000 (intsOf x))) (by simp)
  have q3 : InL 1000000000 (intsOf y) := hp (.p (InL 1000000000 (intsOf y))) (by simp)
  have q4 : (intsOf x).length ≤ 1000000000 := hp (.p ((intsOf x).length ≤ 1000000000)) (by simp)
  have q5 : (intsOf y).length ≤ 1000000000 := hp (.p ((intsOf y).length ≤ 1000000000)) (by simp)
  exact weakenF (ys := [slE (intsOf x), slE (intsOf y)]) ⟨slE_sound q0, slE_sound q1, trivial⟩ (itimF_C q2 q3 q4 q5)
 ·cases h
end Go.Te

namespace Go.Te
open Go Go.Sx Go.Proofs Go.Ar
set_option maxRecDepth 100000
set_option maxHeartbeats 4000000
structure TkS where
 i : Nat
 c : Int
 w : List Int
def itake_an  : Ann :=
 .two .auto (.two .auto (.two (.two .auto (.one (.loop TkS (fun σ z => [(0, σ.tm 0), (1, σ.tm 1), (2, σ.tm 2), (3, σ.tm 3), (14, σ.tm 14), (9, .i z.c), (15, .i (z.i : Int))]) (fun σ z => [(blkAt (σ.tm 0), iArr z.w)]) 0 (fun σ z => TakI 1000000000 (obInts (σ.bl (blkAt (σ.tm 0)))) (obInts (σ.bl (blkAt (σ.tm 1)))) (AV.int (σ.tm 2)).toNat (AV.int (σ.tm 3)) z.i z.w z.c ∧ z.i ≤ (obInts (σ.bl (blkAt (σ.tm 1)))).length + 1) (fun σ z => (obInts (σ.bl (blkAt (σ.tm 1)))).length + 1 - z.i) .auto))) .auto))
def irest_an  : Ann :=
 .two .auto (.two .auto (.two (.two .auto (.one (.loop TkS (fun σ z => [(0, σ.tm 0), (1, σ.tm 1), (2, σ.tm 2), (3, σ.tm 3), (14, σ.tm 14), (9, .i z.c), (15, .i (z.i : Int))]) (fun σ z => [(blkAt (σ.tm 0), iArr z.w)]) 0 (fun σ z => RstI 1000000000 (obInts (σ.bl (blkAt (σ.tm 0)))) (obInts (σ.bl (blkAt (σ.tm 1)))) (AV.int (σ.tm 2)).toNat (AV.int (σ.tm 3)) z.i z.w z.c ∧ z.i ≤ (obInts (σ.bl (blkAt (σ.tm 1)))).length + 1) (fun σ z => (obInts (σ.bl (blkAt (σ.tm 1)))).length + 1 - z.i) .auto))) .auto))
noncomputable def Tdv0 : Tb := (((((T0.plus 212 itrim_t).plus 237 ilimb_t).plus 208 icmp_t).plus 253 iest_t).plus 252 idivS_t).plusF 203 itimF_t
theorem Tdv0_sound : TbSound Tryz.prog Tdv0 := TbSound.plusF (TbSound.plus (TbSound.plus (TbSound.plus (TbSound.plus (TbSound.plus tb0_sound itrim_T) ilimb_T) icmp_T) iest_T) idivS_T) itimF_T
noncomputable def Tdv : Tb := Tdv0.body Tryz.prog [(239, .auto), (254, itake_an), (255, irest_an)]
theorem Tdv_sound : TbSound Tryz.prog Tdv := TbSound.body mixed Tdv0_sound _
structure DvP where
 j : Nat
 q : List Int
 u : List Int
def inBox (σ : Sig) (k : Nat) : Nat :=
 match σ.bl k with
 | .box _ _ cs => blkAt (cs 0)
 | _ => 0
def idv_lp (x : List Int) : Ann := .loop Nat (fun σ z => [(0, σ.tm 0), (4, σ.tm 4), (6, σ.tm 6), (7, σ.tm 7), (8, σ.tm 8), (9, σ.tm 9), (61, σ.tm 61)])
 (fun σ z => [(4, .box 57 1 fun _ => .ns σ.nb 0 ((obInts (σ.bl (inBox σ 4))).length + z)), (inBox σ 4, .dead), (σ.nb, iArr (obInts (σ.bl (inBox σ 4)) ++ List.replicate z 0))]) 1
 (fun σ z => z = 0 ∨ (obInts (σ.bl (inBox σ 4))).length + z ≤ x.length + 1) (fun σ z => x.length + 1 - (obInts (σ.bl (inBox σ 4))).length - z) .auto
def idv_in (V : Int) : Ann := .loop Int (fun σ z => [(4, σ.tm 4), (6, σ.tm 6), (7, σ.tm 7), (8, σ.tm 8), (9, σ.tm 9), (10, .i z)]) (fun _ _ => []) 0
 (fun σ z => 0 ≤ z ∧ z ≤ 2000000000 ∧ valL 1000000000 ((obInts (σ.bl (inBox σ 4))).drop (AV.int (σ.tm 9)).toNat) < (z + 1) * V) (fun σ z => z.toNat) .auto
def idv_it (A V : Int) (n m : Nat) : Ann :=
 .two .auto (.one (.loop DvP (fun σ z => [(0, σ.tm 0), (1, σ.tm 1), (3, .i ((z.j : Int) - 1))]) (fun σ z => [(inBox σ 0, iArr z.q), (inBox σ 4, iArr z.u)]) 0
  (fun _ z => DivJ 1000000000 A V n m z.j z.q z.u ∧ z.j ≤ m) (fun _ z => z.j) .auto))
def idv_an (x : List Int) (A V : Int) (n m : Nat) : Ann :=
 .two .auto (.two .auto (.two .auto (.two .auto (.two .auto (.two (.one (idv_lp x)) (.two .auto (.two (.two .auto (.one (.range (idv_it A V n m) .auto (.one (.two .auto (.two (.one (idv_in V)) .auto)))))) .auto)))))))
def dvF (y : List Int) : Int := (1000000000 : Int).tdiv (y.getD (y.length - 1) 0 + 1)
theorem getD_snocI (l : List Int) (v : Int) (i : Nat) (h : i < l.length + 1) : (l ++ [v]).getD i 0 = if i < l.length then l.getD i 0 else v := by
 rw [List.getD_eq_getElem?_getD, List.getElem?_append]
 by_cases hi : i < l.length
 ·rw [if_pos hi, if_pos hi, ← List.getD_eq_getElem?_getD]
 ·rw [if_neg hi, if_neg hi, show i - l.length = 0 by omega]; rfl
theorem obI1 (l : List Int) (v : Int) : obInts (OB.arr 3 1 (l.length + 1) fun a b => if a < l.length then AV.v (Value.int IntKind.i64 (l.getD a 0)) else AV.v (Value.int IntKind.i64 v)) = l ++ [v] := by
 have e : ((List.range (l.length + 1)).map fun i => AV.int (if i < l.length then AV.v (Value.int IntKind.i64 (l.getD i 0)) else AV.v (Value.int IntKind.i64 v))) = l ++ [v] := by
  apply List.ext_getElem
  ·simp
  ·intro i h1 h2
   rw [List.getElem_map, List.getElem_range]
   have h3 : i < l.length + 1 := by simpa using h2
   have e2 : (l ++ [v])[i] = (l ++ [v]).getD i 0 := by rw [List.getD_eq_getElem?_getD, List.getElem?_eq_getElem h2]; rfl
   rw [e2, getD_snocI l v i h3]
   split <;> rfl
 exact e
theorem int1 (r : Int) : intsOf (AV.xl true 1 1 fun x j => AV.v (Value.int IntKind.i64 r)) = [r] := rfl
theorem estR_ok {b : Int} {k : Nat} {u0 u1 u2 v1 v2 W V : Int} (h : EstC b k u0 u1 u2 v1 v2 W V) (hW : W < b * V) (hV : 0 < V) : ∀ (n : Nat) (q r : Int), EstI b (u0 * b + u1) v1 W V q r → ∃ r', EstI b (u0 * b + u1) v1 W V (estR b u2 v1 v2 n q r) r'
 | 0, q, r, hi => ⟨r, hi⟩
 | n + 1, q, r, hi => by
  unfold estR
  cases hc : (leB b q || (ltB r b && ltB (r * b + u2) (q * v2))) with
  | false => exact ⟨r, hi⟩
  | true =>
   rw [Bool.or_eq_true, leB_iff, Bool.and_eq_true, ltB_iff, ltB_iff] at hc
   obtain ⟨_, hs⟩ := h.step hi hW hV (hc.imp id fun x => x.2)
   simp only [cond_true]
   cases leB b (r + v1) with
   | true => exact ⟨_, hs⟩
   | false => exact estR_ok h hW hV n _ _ hs
theorem estF_ok {A V : Int} {v u q : List Int} {m j : Nat} (hv : InL 1000000000 v) (hV : valL 1000000000 v = V) (hn : 2 ≤ v.length) (h1 : 0 < v.getD (v.length - 1) 0) (hj : j < m) (h : DivJ 1000000000 A V v.length m (j + 1) q u) :
  (0 ≤ estF 1000000000 u v j ∧ estF 1000000000 u v j ≤ 2000000000 ∧ valL 1000000000 (u.drop j) < (estF 1000000000 u v j + 1) * V) ∧ u.getD (j + v.length) 0 ≤ v.getD (v.length - 1) 0 := by
 obtain ⟨k, hk⟩ : ∃ k, v.length = k + 2 := ⟨v.length - 2, by omega⟩
 have hc := h.est (by omega) hv hV hk (by rw [show k + 1 = v.length - 1 by omega]; exact h1) hj
 obtain ⟨w0, w1⟩ := h.win (by omega) (by omega) hj
 have hV0 : 0 < V := by
  refine Decidable.byContradiction fun hn => ?_
  have : 1000000000 * V ≤ 0 := by omega
  omega
 obtain ⟨r', hr⟩ := estR_ok hc w1 hV0 ((u.getD (j + v.length) 0 * 1000000000 + u.getD (j + v.length - 1) 0).tdiv (v.getD (v.length - 1) 0)).toNat _ _ hc.start
 have hF : estF 1000000000 u v j = estR 1000000000 (u.getD (j + k) 0) (v.getD (k + 1) 0) (v.getD k 0) ((u.getD (j + v.length) 0 * 1000000000 + u.getD (j + v.length - 1) 0).tdiv (v.getD (v.length - 1) 0)).toNat
   ((u.getD (j + (k + 2)) 0 * 1000000000 + u.getD (j + (k + 1)) 0).tdiv (v.getD (k + 1) 0)) ((u.getD (j + (k + 2)) 0 * 1000000000 + u.getD (j + (k + 1)) 0).tmod (v.getD (k + 1) 0)) := by
  unfold estF
  rw [hk, show j + (k + 2) - 2 = j + k by omega, show j + (k + 2) - 1 = j + (k + 1) by omega, show k + 2 - 1 = k + 1 by omega, show k + 2 - 2 = k by omega]
 rw [← hF] at hr
 have := hr.le
 have a0 := hc.hu0.2
 rw [hk, show k + 2 - 1 = k + 1 by omega]
 exact ⟨⟨hr.q0, by omega, hr.lt⟩, a0⟩
theorem prL_val {x : List Int} (hx : InL 1000000000 x) {f : Int} (hf : 0 ≤ f) : prL x [f] = limbs 1000000000 (valL 1000000000 x * f).toNat ∧ valL 1000000000 (prL x [f]) = valL 1000000000 x * f ∧ InL 1000000000 (prL x [f]) := by
 have v0 := valL_nonneg (b := 1000000000) (by omega) hx
 have e : prL x [f] = limbs 1000000000 (valL 1000000000 x * f).toNat := by unfold prL; rw [val1]
 refine ⟨e, ?_, by rw [e]; exact limbs_in (b := 1000000000) (by omega) _⟩
 rw [e, show valL 1000000000 (limbs 1000000000 (valL 1000000000 x * f).toNat) = ((valL 1000000000 x * f).toNat : Int) from limbs_val (b := 1000000000) (by omega) _, Int.toNat_of_nonneg (Int.mul_nonneg v0 hf)]
theorem dv_facts {y : List Int} (hy : InL 1000000000 y) (ty : trimL y = y) (hn : y.length ≠ 0) :
  0 < dvF y ∧ dvF y ≤ 500000000 ∧ (prL y [dvF y]).length = y.length ∧ InL 1000000000 (prL y [dvF y]) ∧ valL 1000000000 (prL y [dvF y]) = valL 1000000000 y * dvF y ∧ 0 < (prL y [dvF y]).getD (y.length - 1) 0 ∧
  (1000000000 : Int) ^ (y.length - 1) ≤ valL 1000000000 y * dvF y ∧ 0 < valL 1000000000 y := by
 have g := hy.get (by omega) (y.length - 1)
 have g1 : y.getD (y.length - 1) 0 ≠ 0 := (trim_last ty).resolve_left hn
 have hF : dvF y = (1000000000 : Int).tdiv (y.getD (y.length - 1) 0 + 1) := rfl
 obtain ⟨e, m0, m1, d0⟩ := tdm (n := 1000000000) (b := y.getD (y.length - 1) 0 + 1) (by omega) (by omega)
 rw [← hF] at e d0
 have ee : y = limbs 1000000000 (valL 1000000000 y).toNat := limbs_eq (b := 1000000000) (by omega) hy ty
 have y0 := valL_nonneg (b := 1000000000) (by omega) hy
 have t1 := take_lt (b := 1000000000) (by omega) hy (y.length - 1)
 have e3 : valL 1000000000 y = valL 1000000000 (y.take (y.length - 1)) + 1000000000 ^ (y.length - 1) * y.getD (y.length - 1) 0 := by
  rw [← valL_takeB, List.take_of_length_le (by omega)]
 have pp : (0 : Int) < 1000000000 ^ (y.length - 1) := Int.pow_pos (by omega)
 have hpow : (1000000000 : Int) ^ y.length = 1000000000 ^ (y.length - 1) * 1000000000 := by
  obtain ⟨n, hn'⟩ : ∃ n, y.length = n + 1 := ⟨y.length - 1, by omega⟩
  rw [hn', show n + 1 - 1 = n by omega]
  exact Int.pow_succ _ _
 generalize dvF y = f at *
 generalize y.getD (y.length - 1) 0 = t at *
 have f1 : 0 < f := by
  refine Decidable.byContradiction fun hf => ?_
  have : f = 0 := by omega
  subst this
  omega
 have f2 : f ≤ 500000000 := by
  have : 2 * f ≤ (t + 1) * f := Int.mul_le_mul_of_nonneg_right (by omega) (by omega)
  omega
 obtain ⟨p1, p2, p3⟩ := prL_val hy (f := f) (by omega)
 have y1 : (1000000000 : Int) ^ (y.length - 1) ≤ valL 1000000000 y := by
  have : (1000000000 : Int) ^ (y.length - 1) * 1 ≤ 1000000000 ^ (y.length - 1) * t := Int.mul_le_mul_of_nonneg_left (by omega) (by omega)
  omega
 have yf : valL 1000000000 y ≤ valL 1000000000 y * f := by
  have : valL 1000000000 y * 1 ≤ valL 1000000000 y * f := Int.mul_le_mul_of_nonneg_left (by omega) (by omega)
  omega
 have yu : valL 1000000000 y * f < 1000000000 ^ y.length := by
  have a1 : valL 1000000000 y * f < (1000000000 ^ (y.length - 1) * (t + 1)) * f := Int.mul_lt_mul_of_pos_right (by rw [Int.mul_add]; omega) f1
  have a2 : (1000000000 : Int) ^ (y.length - 1) * ((t + 1) * f) ≤ 1000000000 ^ (y.length - 1) * 1000000000 := Int.mul_le_mul_of_nonneg_left (by omega) (by omega)
  rw [hpow]
  rw [Int.mul_assoc] at a1
  omega
 have hlen : (prL y [f]).length = y.length := by
  refine Nat.le_antisymm ?_ ?_
  ·rw [p1]
   refine limbs_len_le (b := 1000000000) (by omega) ?_
   rw [Int.toNat_of_nonneg (by omega)]
   exact yu
  ·have := limbs_len_mono (b := 1000000000) (m := (valL 1000000000 y).toNat) (n := (valL 1000000000 y * f).toNat) (by omega) (by omega)
   rw [← ee, ← p1] at this
   exact this
 refine ⟨f1, f2, hlen, p3, p2, ?_, by omega, by omega⟩
 have g2 := p3.get (by omega) (y.length - 1)
 have := limbs_last (b := 1000000000) (n := (valL 1000000000 y * f).toNat) (by omega) (by omega)
 rw [← p1, hlen] at this
 omega
theorem zeros_getD {P : List Int} {z i : Nat} (h : P.length ≤ i) : (P ++ [0] ++ List.replicate z 0).getD i 0 = 0 := by
 rw [List.append_assoc, List.getD_eq_getElem?_getD, List.getElem?_append_right h]
 have : [(0 : Int)] ++ List.replicate z 0 = List.replicate (z + 1) 0 := rfl
 rw [this, List.getElem?_replicate]
 split <;> rfl
theorem dv_start {P : List Int} {n m z : Nat} {V : Int} (hP : InL 1000000000 P) (hn : 0 < n) (hl : P.length + 1 + z = m + n) (hV : (1000000000 : Int) ^ (n - 1) ≤ V) :
  valL 1000000000 ((P ++ [0] ++ List.replicate z 0).drop m) < V ∧ valL 1000000000 (P ++ [0] ++ List.replicate z 0) = valL 1000000000 P ∧ InL 1000000000 (P ++ [0] ++ List.replicate z 0) ∧ (P ++ [0] ++ List.replicate z 0).length = m + n := by
 have hU : InL 1000000000 (P ++ [0] ++ List.replicate z 0) := (hP.app (.one (by omega) (by omega))).app (.zeros (by omega) _)
 refine ⟨?_, ?_, hU, by simp; omega⟩
 ·rw [valL_all (n := n - 1) fun i hi => by rw [getD_drop']; exact zeros_getD (by omega)]
  have := (take_lt (b := 1000000000) (by omega) (hU.drop m) (n - 1)).2
  omega
 ·rw [List.append_assoc, valL_app, show [(0 : Int)] ++ List.replicate z 0 = List.replicate (z + 1) 0 from rfl, valL_zeros, Int.mul_zero, Int.add_zero]
theorem slB {l : List Int} {n : Nat} (h : n = l.length) : slOk Int (AV.xl false 1 n fun i j => AV.v (Value.int IntKind.i64 (l.getD i 0))) = true ∧ intsOf (AV.xl false 1 n fun i j => AV.v (Value.int IntKind.i64 (l.getD i 0))) = l := by
 subst h
 exact ⟨okIn _ l, deI _ l⟩
def idivL_t : List AV → Option (List Cond × AV)
 | [x_x, x_y] => some ([.b (slOk Int x_x), .b (slOk Int x_y), .p (InL 1000000000 (intsOf x_x)), .p (InL 1000000000 (intsOf x_y)), .p (trimL (intsOf x_x) = (intsOf x_x)), .p (trimL (intsOf x_y) = (intsOf x_y)), .p ((intsOf x_y).length ≠ 0), .p ((intsOf x_x).length ≤ 100000000), .p ((intsOf x_y).length ≤ 100000000)], .tup 2 (listFn [slE (limbs 1000000000 ((valL 1000000000 (intsOf x_x)).toNat / (valL 1000000000 (intsOf x_y)).toNat)), slE (limbs 1000000000 ((valL 1000000000 (intsOf x_x)).toNat % (valL 1000000000 (intsOf x_y)).toNat))]))
 | _ => none
theorem idivL_vc (x : List Int) (y : List Int) (hx : InL 1000000000 x) (hy : InL 1000000000 y) (tx : trimL x = x) (ty : trimL y = y) (hn : y.length ≠ 0) (hlx : x.length ≤ 100000000) (hly : y.length ≤ 100000000) :
 let q2 := (AV.xl false 1 (lN x) fun i j => aI (gD x i Enc.dflt)); let q1 := (slOk Int q2); let q4 := (AV.xl false 1 (lN y) fun i j => aI (gD y i Enc.dflt)); let q3 := (slOk Int q4); let q6 := (intsOf q2); let q5 := (∀ (x_1 : Int), List.Mem x_1 q6 → iZ ≤ x_1 ∧ x_1 < iB); let q8 := (intsOf q4); let q7 := (∀ (x : Int), List.Mem x q8 → iZ ≤ x ∧ x < iB); let q9 := (limbs 1000000000 (Int.toNat (valL iB x) / Int.toNat (valL iB y))); let q11 := (limbs
 1000000000 (Int.toNat (valL iB x) % Int.toNat (valL iB y))); let q10 := (AV.xl false 1 (lN q11) fun i j => aI (gD q11 i Enc.dflt)); let q13 := (valL iB q6); let q12 := (limbs 1000000000 (Int.toNat q13 / Int.toNat (gD y 0 Enc.dflt))); let q14 := (AV.xl false 1 (lN q9) fun i j => aI (gD q9 i Enc.dflt)); let q15 := (limbs 1000000000 (Int.toNat q13 % Int.toNat (gD y 0 Enc.dflt))); let q17 := (Int.toNat ((lZ y) - iO)); let q16 := (gD y
 q17 Enc.dflt + iO); let q18 := (Int.tdiv iB q16); let q20 := (Value.int .i64 q18); let q19 := (∀ (x : Int), List.Mem x (intsOf (AV.xl true 1 1 (Sx.rowAt [fun (x : Nat) => AV.v q20]))) → iZ ≤ x ∧ x < iB); let q21 := (intsOf (AV.xl true 1 1 (Sx.rowAt [fun (x : Nat) => AV.v q20]))); let q23 := (prL q6 q21); let q22 := (lN q23 + 1); let q25 := (OB.arr 3 1 q22 fun (a b : Nat) => if a < lN q23 then aI (gD q23 a iZ) else Sx.rowAt [fun (x : Nat) => aI iZ] (a - lN q23) b);
 let q24 := (obInts q25); let q26 := (kI ∧ Int.tdiv iB q16 = Int.tdiv iB q16); let q28 := (prL q8 q21); let q27 := ((((57 = 57 ∧ 1 = 1 ∧ Value.slice (Non Addr) 0 0 = Array.getD (Value.cells (Value.slice (Non Addr) 0 0)) (nat_lit 0) undef) ∧ True) ∧ True) ∧ 3 = 3 ∧ 1 = 1 ∧ lN q28 = lN q28 ∧ ∀ (i j : Nat), i < lN q28 → j < 1 → kI ∧ gD q28 i iZ = gD q28 i iZ); let q36 := (lN q28); let q35 := (↑q36 : Int); let q39 := (max (lN (prL x [dvF y]) + 1) (lN x +
 1) - lN y); let q45 := (AV.xl false 1 q36 fun i j => aI (gD q28 (0 + i) iZ)); let q44 := (slOk Int q45); let q48 := (intsOf q45); let q49 := (lN q48 - 1); let q55 := (q35 + iO); let q54 := (DB.db (inK .i64 q55)); let q56 := (obInts (OB.arr (3 : TypeId) 1 q36 fun (i x : Nat) => AV.v (Value.int .i64 (gD (prL q8 (intsOf (AV.xl true 1 1 (Sx.rowAt [fun (x : Nat) => AV.v q20])))) i iZ)))); let q58 := (nat_lit 3 = 3 ∧ 0 = 0 ∧ lN q28 = lN q28); let q59 := (kI ∧ q35 + iO = q35 + iO);
 bndL [AV.xl false 1 (lN x) fun i j => aI (gD x i Enc.dflt), AV.xl false 1 (lN y) fun i j => aI (gD y i Enc.dflt)] → bsplit q1 (bsplit q3 (q5 ∧ q7 ∧ bsplit (ltB (cmpL q6 q8) iZ) (j2 ∧ (True ∧ Value.slice (Non Addr) 0 0 = Value.slice (Non Addr) 0 0 ∧ lN q9 = 0) ∧ avM q2 q10) (bsplit ((lZ y) == iO) (bsplit (DB.db (iZ ≤ iZ ∧ iZ < (lZ y))) (bsplit q1 (q5 ∧ (iZ < gD y 0 Enc.dflt ∧ gD y 0 Enc.dflt ≤
 iB) ∧ lN q6 ≤ 1000000000 ∧ j2 ∧ (True ∧ avM (AV.xl false 1 (lN q12) fun i j => aI (gD q12 i Enc.dflt)) q14) ∧ avM (AV.xl false 1 (lN q15) fun i j => aI (gD q15 i Enc.dflt)) q10) False) False) (bsplit (DB.db (inK .i64 ((lZ y) - iO))) (bsplit (DB.db (iZ ≤ (lZ y) - iO ∧ (lZ y) - iO < (lZ y))) (bsplit (DB.db (inK .i64 q16)) (bsplit (DB.db (gD y q17 Enc.dflt + iO
 ≠ iZ)) (bsplit (DB.db (inK .i64 q18)) (bsplit q1 (q5 ∧ q19 ∧ lN q6 ≤ 1000000000 ∧ lN q21 ≤ 1000000000 ∧ bsplit (DB.db (q22 * 8 ≤ 140737488355328)) (bsplit q3 (q7 ∧ q19 ∧ lN q8 ≤ 1000000000 ∧ lN q21 ≤ 1000000000 ∧ (∃ (z : Nat), let q29 := (obInts q25 ++ List.replicate z iZ); ((z = 0 ∨ lN q24 + z ≤ lN x + 1) ∧ avM q2 q2 ∧ (nat_lit 0 = 0 ∧ 0 = 0) ∧ q26 ∧ (nat_lit 4 = 4 ∧ 0 = 0) ∧ (nat_lit 5 = 5 ∧ 0 = 0) ∧ True ∧ True) ∧ ((q27 ∧ (57 : TypeId) = 57 ∧ 1 = 1 ∧ nat_lit 6 = 6 ∧ 0 = 0 ∧ lN q24 + z = lN q23 + 1) ∧ 57 =
 57 ∧ 1 = 1 ∧ nat_lit 3 = 3 ∧ 0 = 0 ∧ lN q28 = lN q28) ∧ (3 : TypeId) = 3 ∧ 1 = 1 ∧ lN q29 = lN q23 + 1 ∧ ∀ (i j : Nat), i < lN q23 + 1 → j < 1 → avM (if i < lN q23 then aI (gD q23 i iZ) else Sx.rowAt [fun (x : Nat) => aI iZ] (i - lN q23) j) (aI (gD q29 i iZ))) ∧ ∀ (z : Nat), let q31 := (lN q24 + z); let q30 := (↑q31 : Int); let q33 := (obInts q25 ++ List.replicate z iZ); let q34 := (q30 - q35); let q38 := (Int.toNat q34); let
 q37 := (↑q38 : Int); let q40 := ((((((57 = 57 ∧ 1 = 1 ∧ nat_lit 7 = 7 ∧ 0 = 0 ∧ Int.toNat q34 = Int.toNat q34) ∧ True) ∧ True) ∧ 3 = 3 ∧ 1 = 1 ∧ lN q28 = lN q28 ∧ ∀ (i j : Nat), i < lN q28 → j < 1 → kI ∧ gD q28 i iZ = gD q28 i iZ) ∧ 57 = 57 ∧ 1 = 1 ∧ nat_lit 6 = 6 ∧ 0 = 0 ∧ lN q24 + z = lN q24 + z) ∧ 57 = 57 ∧ 1 = 1 ∧ nat_lit 3 = 3 ∧ 0 = 0 ∧ lN q28 = lN q28); let q57 := (nat_lit 6 = 6 ∧ 0 = 0 ∧ lN q24 + z = lN q24 + z); z = 0 ∨ lN q24 + z ≤ lN x + 1 →
 bsplit (DB.db (inK .i64 ((lZ x) + iO))) (bsplit (ltB q30 ((lZ x) + iO)) (bsplit (DB.db ((lN q24 + z + 1) * 8 ≤ 140737488355328)) (∃ (z' : Nat), let q32 := (obInts q25 ++ List.replicate z' iZ); (((z' = 0 ∨ lN q24 + z' ≤ lN x + 1) ∧ lN x + 1 - lN q24 - z' < lN x + 1 - lN q24 - z) ∧ avM q2 q2 ∧ (nat_lit 0 = 0 ∧ 0 = 0) ∧ q26 ∧ (nat_lit 4 = 4 ∧ 0 = 0) ∧ (nat_lit 5 = 5 ∧ 0 = 0) ∧ True ∧ True) ∧ ((q27 ∧ 57 = 57 ∧ 1 = 1 ∧ nat_lit 6 = 6 ∧ 0 = 0 ∧ lN q24 + z' = lN q24
 + z + 1) ∧ 57 = 57 ∧ 1 = 1 ∧ nat_lit 3 = 3 ∧ 0 = 0 ∧ lN q28 = lN q28) ∧ (3 : TypeId) = 3 ∧ 1 = 1 ∧ lN q32 = lN q24 + z + 1 ∧ ∀ (i j : Nat), i < lN q24 + z + 1 → j < 1 → avM (if i < lN q24 + z then aI (gD q33 i iZ) else Sx.rowAt [fun (x : Nat) => aI iZ] (i - q31) j) (aI (gD q32 i iZ))) False) (bsplit (DB.db (inK .i64 q34)) (bsplit (DB.db (iZ ≤ q30 - q35 ∧ q30 - q35 ≤ q30 - q35 ∧ (↑8 : Int) * q34 ≤ (140737488355328 : Int))) (bsplit (DB.db (inK
 .i64 (q37 - iO))) ((∃ (z_1 : DvP), ((DivJ iB (valL iB x * dvF y) (valL iB y * dvF y) (lN y) q39 (DvP.j z_1) (DvP.q z_1) (DvP.u z_1) ∧ DvP.j z_1 ≤ max (lN (prL x [dvF y]) + 1) (lN x + 1) - lN y) ∧ nat_lit 9 = 9 ∧ (nat_lit 8 = 8 ∧ 0 = 0) ∧ kI ∧ q37 - iO = (↑(DvP.j z_1) : Int) - iO) ∧ (((q40 ∧ 3 = 3 ∧ 1 = 1 ∧ lN (DvP.u z_1) = lN q33 ∧ ∀ (i j : Nat), i < lN q33 → j < 1 → kI ∧ gD q33 i iZ = gD (DvP.u z_1) i iZ)
 ∧ (3 : TypeId) = 3 ∧ 1 = 1 ∧ lN (DvP.q z_1) = Int.toNat q34 ∧ ∀ (i j : Nat), i < Int.toNat q34 → j < 1 → avM (zcell (Value.int .i64 iZ) j) (aI (gD (DvP.q z_1) i iZ))) ∧ 57 = 57 ∧ 1 = 1 ∧ nat_lit 7 = 7 ∧ 0 = 0 ∧ Int.toNat q34 = Int.toNat q34) ∧ LoopState.ready = LoopState.ready ∧ Non Code = Non Code) ∧ ∀ (z_1 : DvP), let q41 := (DB.db (iZ ≤ (↑(DvP.j z_1) : Int) - iO ∧ (↑(DvP.j z_1) : Int) - iO < q37)); let q43 := (AV.xl false 1 q31 fun i j => aI (gD (DvP.u z_1) (0 + i) iZ)); let q42 := (slOk
 Int q43); let q46 := (intsOf q43); let q51 := (Int.toNat (AV.int (aI ((↑(DvP.j z_1) : Int) - iO)))); let q52 := (obInts (OB.arr (3 : TypeId) 1 (lN (DvP.u z_1)) fun (i x : Nat) => aI (gD (DvP.u z_1) i iZ))); let q50 := (List.drop q51 q52); let q53 := (kI ∧ (↑(DvP.j z_1) : Int) - iO = (↑(DvP.j z_1) : Int) - iO); let q77 := (trimL q46); let q76 := (AV.xl false 1 (lN q77) fun i j => aI (gD q77 i Enc.dflt)); let q78 := (intsOf q76); let q79 := (AV.xl false 1 q38 fun i
 j => aI (gD (DvP.q z_1) (0 + i) iZ)); let q80 := (trimL (intsOf q79)); let q81 := (limbs 1000000000 (Int.toNat (valL iB q78) / Int.toNat q18)); DivJ iB (valL iB x * dvF y) (valL iB y * dvF y) (lN y) q39 (DvP.j z_1) (DvP.q z_1) (DvP.u z_1) ∧ DvP.j z_1 ≤ max (lN (prL x [dvF y]) + 1) (lN x + 1) - lN y → bsplit (leB iZ ((↑(DvP.j z_1) : Int) - iO)) (bsplit q41 (bsplit q42 (bsplit q44 ((∀ (x_1 : Int), List.Mem x_1 q46 → iZ ≤ x_1 ∧ x_1 < (1000000000
 : Int)) ∧ (∀ (x : Int), let q47 := (prL q8 (intsOf (AV.xl true 1 1 (Sx.rowAt [fun (x : Nat) => AV.v q20])))); List.Mem x (intsOf (AV.xl false 1 (lN q47) fun i j => aI (gD q47 (0 + i) iZ))) → iZ ≤ x ∧ x < iB) ∧ 2 ≤ lN q48 ∧ lN q48 ≤ 1000000000 ∧ (iZ ≤ (↑(DvP.j z_1) : Int) - iO ∧ (↑(DvP.j z_1) : Int) - iO + (lZ q48) < (lZ q46)) ∧ iZ < gD q48 q49 iZ ∧ gD q46 (Int.toNat ((↑(DvP.j z_1) : Int) - iO) + lN q48) iZ
 ≤ gD q48 q49 iZ ∧ (∃ (z_2 : Int), ((iZ ≤ z_2 ∧ z_2 ≤ (2000000000 : Int) ∧ valL iB q50 < (z_2 + iO) * (valL iB y * dvF y)) ∧ (nat_lit 0 = 0 ∧ 0 = 0) ∧ q26 ∧ (nat_lit 4 = 4 ∧ 0 = 0) ∧ (nat_lit 5 = 5 ∧ 0 = 0) ∧ q53 ∧ kI ∧ estF iB q46 q48 (Int.toNat ((↑(DvP.j z_1) : Int) - iO)) = z_2) ∧ (((q40 ∧ 3 = 3 ∧ 1 = 1 ∧ lN (DvP.u z_1) = lN (DvP.u z_1) ∧ ∀ (i j : Nat), i < lN (DvP.u z_1) → j < 1 → kI ∧ gD (DvP.u z_1) i iZ = gD (DvP.u z_1) i (0 :
 Int)) ∧ 3 = 3 ∧ 1 = 1 ∧ lN (DvP.q z_1) = lN (DvP.q z_1) ∧ ∀ (i j : Nat), i < lN (DvP.q z_1) → j < 1 → kI ∧ gD (DvP.q z_1) i iZ = gD (DvP.q z_1) i iZ) ∧ 57 = 57 ∧ 1 = 1 ∧ nat_lit 7 = 7 ∧ 0 = 0 ∧ Int.toNat q34 = Int.toNat q34) ∧ LoopState.busy = LoopState.busy ∧ Non Code = Non Code) ∧ ∀ (z_2 : Int), iZ ≤ z_2 ∧ z_2 ≤ (2000000000 : Int) ∧ valL iB q50 < (z_2 + iO) * (valL iB y * dvF y) → bsplit q54 ((∃ (z_3 : TkS), ((TakI iB q52 q56 q51 (AV.int (AV.v (Value.int .i64
 z_2))) (TkS.i z_3) (TkS.w z_3) (TkS.c z_3) ∧ TkS.i z_3 ≤ lN q56 + 1) ∧ q57 ∧ q58 ∧ q53 ∧ (kI ∧ z_2 = z_2) ∧ q59 ∧ (kI ∧ iZ = TkS.c z_3) ∧ kI ∧ iZ = (↑(TkS.i z_3) : Int)) ∧ (((q40 ∧ 3 = 3 ∧ 1 = 1 ∧ lN (TkS.w z_3) = lN (DvP.u z_1) ∧ ∀ (i j : Nat), i < lN (DvP.u z_1) → j < 1 → kI ∧ gD (DvP.u z_1) i iZ = gD (TkS.w z_3) i iZ) ∧ 3 = 3 ∧ 1 = 1 ∧ lN (DvP.q z_1) = lN (DvP.q z_1) ∧ ∀ (i j : Nat), i < lN (DvP.q z_1) → j < 1 → IntKind.i64 =
 .i64 ∧ gD (DvP.q z_1) i iZ = gD (DvP.q z_1) i iZ) ∧ 57 = 57 ∧ 1 = 1 ∧ nat_lit 7 = 7 ∧ 0 = 0 ∧ Int.toNat q34 = Int.toNat q34) ∧ LoopState.busy = LoopState.busy ∧ Non Code = Non Code) ∧ ∀ (z_3 : TkS), let q61 := ((↑(DvP.j z_1) : Int) - iO + (↑(TkS.i z_3) : Int)); let q60 := (DB.db (inK .i64 q61)); let q62 := (DB.db (iZ ≤ (↑(DvP.j z_1) : Int) - iO + (↑(TkS.i z_3) : Int) ∧ (↑(DvP.j z_1) : Int) - iO + (↑(TkS.i z_3) : Int) < q30)); let q63 := (0 + Int.toNat q61); let q64 := (gD (TkS.w z_3) q63 iZ - TkS.c z_3 - z_2 * gD q48
 (Int.toNat (↑(TkS.i z_3) : Int)) iZ); let q65 := (-q64 + iB - iO); let q66 := (gD (TkS.w z_3) q63 iZ - TkS.c z_3 - z_2 * gD q48 (Int.toNat (↑(TkS.i z_3) : Int)) iZ + Int.tdiv q65 iB * iB); let q67 := (DB.db (inK .i64 ((↑(TkS.i z_3) : Int) + iO))); let q68 := (gD (TkS.w z_3) q63 iZ - TkS.c z_3 - z_2 * gD q48 (Int.toNat (↑(TkS.i z_3) : Int)) iZ + iZ * iB); let q69 := (obInts (OB.arr (3 : TypeId) 1 (lN (TkS.w z_3)) fun (i x : Nat) => AV.v
 (Value.int .i64 (gD (TkS.w z_3) i iZ)))); TakI iB q52 q56 q51 (AV.int (aI z_2)) (TkS.i z_3) (TkS.w z_3) (TkS.c z_3) ∧ TkS.i z_3 ≤ lN q56 + 1 → bsplit (ltB (↑(TkS.i z_3) : Int) q55) (bsplit q60 (bsplit q62 (bsplit (DB.db (inK .i64 (gD (TkS.w z_3) q63 iZ - TkS.c z_3))) (bsplit q44 (iZ ≤ (↑(TkS.i z_3) : Int) ∧ bsplit (DB.db (inK .i64 (z_2 * gD q48 (Int.toNat (↑(TkS.i z_3) : Int)) iZ))) (bsplit (DB.db (inK .i64 q64)) (bsplit (ltB q64 iZ) (bsplit (DB.db (inK .i64 (-q64))) (bsplit (DB.db (inK .i64
 (-q64 + iB))) (bsplit (DB.db (inK .i64 q65)) (bsplit (DB.db (inK .i64 (Int.tdiv q65 iB))) (bsplit q60 (bsplit (DB.db (inK .i64 (Int.tdiv q65 iB * iB))) (bsplit (DB.db (inK .i64 q66)) (bsplit q62 (bsplit q67 (∃ (z' : TkS), (((TakI iB q52 q56 q51 (AV.int (aI z_2)) (TkS.i z') (TkS.w z') (TkS.c z') ∧ TkS.i z' ≤ lN q56 + 1) ∧ lN q56 + 1 - TkS.i z' < lN q56 + 1 - TkS.i z_3) ∧ q57 ∧ q58 ∧ q53 ∧ (kI ∧ z_2 = z_2) ∧ q59 ∧ (kI ∧ Int.tdiv q65
 iB = TkS.c z') ∧ kI ∧ (↑(TkS.i z_3) : Int) + iO = (↑(TkS.i z') : Int)) ∧ (((q40 ∧ 3 = 3 ∧ 1 = 1 ∧ lN (TkS.w z') = lN (TkS.w z_3) ∧ ∀ (i j : Nat), i < lN (TkS.w z_3) → j < 1 → avM (if i = 0 + Int.toNat q61 ∧ 0 ≤ j ∧ j < 1 then aI q66 else aI (gD (TkS.w z_3) i iZ)) (aI (gD (TkS.w z') i iZ))) ∧ 3 = 3 ∧ 1 = 1 ∧ lN (DvP.q z_1) = lN (DvP.q z_1) ∧ ∀ (i j : Nat), i < lN (DvP.q z_1) → j < 1 → kI ∧ List.getD
 (DvP.q z_1) i iZ = gD (DvP.q z_1) i iZ) ∧ 57 = 57 ∧ 1 = 1 ∧ nat_lit 7 = 7 ∧ 0 = 0 ∧ Int.toNat q34 = Int.toNat q34) ∧ LoopState.busy = LoopState.busy ∧ Non Code = Non Code) False) False) False) False) False) False) False) False) False) (bsplit q60 (bsplit (DB.db (inK .i64 q68)) (bsplit q62 (bsplit q67 (∃ (z' : TkS), (((TakI iB q52 q56 q51 (AV.int (aI z_2)) (TkS.i z') (TkS.w z') (TkS.c z') ∧ TkS.i z' ≤ lN q56 + 1) ∧ lN q56 + 1 - TkS.i z' < lN q56 + 1 - TkS.i z_3) ∧ q57 ∧ q58 ∧ q53 ∧ (kI ∧ z_2 = z_2)
 ∧ q59 ∧ (kI ∧ iZ = TkS.c z') ∧ kI ∧ (↑(TkS.i z_3) : Int) + iO = (↑(TkS.i z') : Int)) ∧ (((q40 ∧ 3 = 3 ∧ 1 = 1 ∧ lN (TkS.w z') = lN (TkS.w z_3) ∧ ∀ (i j : Nat), i < lN (TkS.w z_3) → j < 1 → avM (if i = 0 + Int.toNat q61 ∧ 0 ≤ j ∧ j < 1 then aI q68 else aI (gD (TkS.w z_3) i iZ)) (aI (gD (TkS.w z') i iZ))) ∧ 3 = 3 ∧ 1 = 1 ∧ lN (DvP.q z_1) = lN (DvP.q z_1) ∧ ∀ (i j : Nat), i < lN (DvP.q z_1) → j < 1 → IntKind.i64 =
 .i64 ∧ gD (DvP.q z_1) i iZ = gD (DvP.q z_1) i iZ) ∧ 57 = 57 ∧ 1 = 1 ∧ nat_lit 7 = 7 ∧ 0 = 0 ∧ Int.toNat q34 = Int.toNat q34) ∧ LoopState.busy = LoopState.busy ∧ Non Code = Non Code) False) False) False) False)) False) False) False) False) False) False) (bsplit (ltB iZ (TkS.c z_3)) (bsplit q54 ((∃ (z_4 : TkS), ((RstI iB q69 q56 q51 (AV.int (aI z_2)) (TkS.i z_4) (TkS.w z_4) (TkS.c z_4) ∧ TkS.i z_4 ≤ lN q56 + 1) ∧ q57 ∧ q58 ∧ q53 ∧ (kI ∧ z_2 = z_2) ∧ q59 ∧ (kI ∧ iZ = TkS.c z_4) ∧
 kI ∧ iZ = (↑(TkS.i z_4) : Int)) ∧ (((q40 ∧ 3 = 3 ∧ 1 = 1 ∧ lN (TkS.w z_4) = lN (TkS.w z_3) ∧ ∀ (i j : Nat), i < lN (TkS.w z_3) → j < 1 → kI ∧ gD (TkS.w z_3) i iZ = gD (TkS.w z_4) i iZ) ∧ 3 = 3 ∧ 1 = 1 ∧ lN (DvP.q z_1) = lN (DvP.q z_1) ∧ ∀ (i j : Nat), i < lN (DvP.q z_1) → j < 1 → kI ∧ gD (DvP.q z_1) i iZ = gD (DvP.q z_1) i iZ) ∧ 57 = 57 ∧ 1 = 1 ∧ nat_lit 7 = 7 ∧ 0 = 0 ∧ Int.toNat q34 = Int.toNat q34) ∧ LoopState.busy =
 LoopState.busy ∧ Non Code = Non Code) ∧ ∀ (z_4 : TkS), let q71 := ((↑(DvP.j z_1) : Int) - iO + (↑(TkS.i z_4) : Int)); let q70 := (DB.db (inK .i64 q71)); let q72 := (DB.db (iZ ≤ (↑(DvP.j z_1) : Int) - iO + (↑(TkS.i z_4) : Int) ∧ (↑(DvP.j z_1) : Int) - iO + (↑(TkS.i z_4) : Int) < q30)); let q74 := (0 + Int.toNat q71); let q75 := (gD (TkS.w z_4) q74 iZ + z_2 * gD q48 (Int.toNat (↑(TkS.i z_4) : Int)) iZ + TkS.c z_4); let q73 := (iZ ≤ (↑(TkS.i z_4) : Int) ∧ bsplit (DB.db (inK .i64 (z_2 * gD q48 (Int.toNat (↑(TkS.i z_4) : Int)) (0
 : Int)))) (bsplit (DB.db (inK .i64 (gD (TkS.w z_4) q74 iZ + z_2 * gD q48 (Int.toNat (↑(TkS.i z_4) : Int)) iZ))) (bsplit (DB.db (inK .i64 q75)) (bsplit q70 (bsplit (DB.db (inK .i64 (Int.tdiv q75 iB))) (bsplit q72 (bsplit (DB.db (inK .i64 ((↑(TkS.i z_4) : Int) + iO))) (∃ (z' : TkS), (((RstI iB q69 q56 q51 (AV.int (aI z_2)) (TkS.i z') (TkS.w z') (TkS.c z') ∧ TkS.i z' ≤ lN q56 + 1) ∧ lN q56 + 1 - TkS.i z' < lN q56 + 1 - TkS.i z_4) ∧ q57 ∧ q58 ∧ q53 ∧ (kI ∧ z_2 = z_2) ∧
 q59 ∧ (kI ∧ Int.tdiv q75 iB = TkS.c z') ∧ kI ∧ (↑(TkS.i z_4) : Int) + iO = (↑(TkS.i z') : Int)) ∧ (((q40 ∧ 3 = 3 ∧ 1 = 1 ∧ lN (TkS.w z') = lN (TkS.w z_4) ∧ ∀ (i j : Nat), i < lN (TkS.w z_4) → j < 1 → avM (if i = 0 + Int.toNat q71 ∧ 0 ≤ j ∧ j < 1 then aI (Int.tmod q75 iB) else aI (gD (TkS.w z_4) i iZ)) (aI (gD (TkS.w z') i iZ))) ∧ 3 = 3 ∧ 1 = 1 ∧ lN (DvP.q z_1) = lN (DvP.q z_1) ∧ ∀ (i j : Nat), i <
 lN (DvP.q z_1) → j < 1 → kI ∧ gD (DvP.q z_1) i iZ = gD (DvP.q z_1) i iZ) ∧ 57 = 57 ∧ 1 = 1 ∧ nat_lit 7 = 7 ∧ 0 = 0 ∧ Int.toNat q34 = Int.toNat q34) ∧ LoopState.busy = LoopState.busy ∧ Non Code = Non Code) False) False) False) False) False) False) False); RstI iB q69 q56 q51 (AV.int (aI z_2)) (TkS.i z_4) (TkS.w z_4) (TkS.c z_4) ∧ TkS.i z_4 ≤ lN q56 + 1 → bsplit (ltB (↑(TkS.i z_4) : Int) q55) (bsplit q70 (bsplit q72 (bsplit q44 q73 False ∧ bsplit q44 q73 False) False) False) (bsplit (DB.db (inK .i64
 (z_2 - iO))) (∃ (z' : Int), (((iZ ≤ z' ∧ z' ≤ (2000000000 : Int) ∧ valL iB q50 < (z' + iO) * (valL iB y * dvF y)) ∧ Int.toNat z' < Int.toNat z_2) ∧ (nat_lit 0 = 0 ∧ 0 = 0) ∧ q26 ∧ (nat_lit 4 = 4 ∧ 0 = 0) ∧ (nat_lit 5 = 5 ∧ 0 = 0) ∧ q53 ∧ kI ∧ z_2 - iO = z') ∧ (((q40 ∧ 3 = 3 ∧ 1 = 1 ∧ lN (DvP.u z_1) = lN (TkS.w z_4) ∧ ∀ (i j : Nat), i < lN (TkS.w z_4) → j < 1 → kI ∧ gD (TkS.w z_4) i iZ = gD (DvP.u z_1) i iZ) ∧ 3 = 3 ∧ 1 = 1 ∧ lN (DvP.q z_1) =
 lN (DvP.q z_1) ∧ ∀ (i j : Nat), i < lN (DvP.q z_1) → j < 1 → kI ∧ gD (DvP.q z_1) i iZ = gD (DvP.q z_1) i iZ) ∧ 57 = 57 ∧ 1 = 1 ∧ nat_lit 7 = 7 ∧ 0 = 0 ∧ Int.toNat q34 = Int.toNat q34) ∧ LoopState.busy = LoopState.busy ∧ Non Code = Non Code) False)) False) (bsplit q41 (bsplit (DB.db (inK .i64 ((↑(DvP.j z_1) : Int) - iO - iO))) (∃ (z' : DvP), (((DivJ iB (valL iB x * dvF y) (valL iB y * dvF y) (lN y) q39 (DvP.j z') (DvP.q z') (DvP.u z') ∧ DvP.j z' ≤ max (List.length
 (prL x [dvF y]) + 1) (lN x + 1) - lN y) ∧ DvP.j z' < DvP.j z_1) ∧ nat_lit 9 = 9 ∧ (nat_lit 8 = 8 ∧ 0 = 0) ∧ kI ∧ (↑(DvP.j z_1) : Int) - iO - iO = (↑(DvP.j z') : Int) - iO) ∧ (((q40 ∧ 3 = 3 ∧ 1 = 1 ∧ lN (DvP.u z') = lN (TkS.w z_3) ∧ ∀ (i j : Nat), i < lN (TkS.w z_3) → j < 1 → kI ∧ gD (TkS.w z_3) i iZ = gD (DvP.u z') i iZ) ∧ 3 = 3 ∧ 1 = 1 ∧ lN (DvP.q z') = lN (DvP.q z_1) ∧ ∀ (i j : Nat), i < lN (DvP.q z_1) → j < 1 → avM (if i = 0 + Int.toNat
 ((↑(DvP.j z_1) : Int) - iO) ∧ 0 ≤ j ∧ j < 1 then aI z_2 else aI (gD (DvP.q z_1) i iZ)) (aI (gD (DvP.q z') i iZ))) ∧ 57 = 57 ∧ 1 = 1 ∧ nat_lit 7 = 7 ∧ 0 = 0 ∧ Int.toNat q34 = Int.toNat q34) ∧ LoopState.ready = LoopState.ready ∧ Non Code = Non Code) False) False))) False) False) False) False) (bsplit q42 (bsplit (slOk Int q76) ((∀ (x_1 : Int), List.Mem x_1 q78 → iZ ≤ x_1 ∧ x_1 < iB) ∧ (iZ < Int.tdiv iB q16 ∧ Int.tdiv iB q16 ≤ iB)
 ∧ lN q78 ≤ 1000000000 ∧ bsplit (slOk Int q79) (j2 ∧ (True ∧ avM (AV.xl false 1 (lN q80) fun i j => aI (gD q80 i Enc.dflt)) q14) ∧ avM (AV.xl false 1 (lN q81) fun i j => aI (gD q81 i Enc.dflt)) q10) False) False) False)) False) False) False)) False) False) False) False) False) False) False) False) False))) False) False := by
 delta kI j2 lZ lN gD iZ iO iB aI
 dsimp only
 intro hb
 have e0 : (Enc.dflt : Int) = 0 := rfl
 simp only [↓vc_db, ↓vc_gdb, row_one]
 simp only [sS, dS, e0]
 have en : ((y.length : Int) - 1).toNat = y.length - 1 := by omega
 have hF : Int.tdiv 1000000000 (y.getD (y.length - 1) 0 + 1) = dvF y := rfl
 simp only [obI, implies_true, and_true, true_and, int1, en, hF, obI1, and_self]
 obtain ⟨f0, f1, vl, vi, vv, vt, vp, y0⟩ := dv_facts hy ty hn
 have x0 := valL_nonneg (b := 1000000000) (by omega) hx
 obtain ⟨pe, pv, pi⟩ := prL_val hx (f := dvF y) (by omega)
 have pl : (prL x [dvF y]).length ≤ x.length + 1 := by
  rw [pe]
  refine limbs_len_le (b := 1000000000) (by omega) ?_
  have h1 := valL_lt (b := 1000000000) (by omega) hx
  have h2 : valL 1000000000 x * dvF y ≤ valL 1000000000 x * 1000000000 := Int.mul_le_mul_of_nonneg_left (by omega) x0
  rw [Int.toNat_of_nonneg (Int.mul_nonneg x0 (by omega))]
  show _ < (1000000000 : Int) ^ (x.length + 1)
  rw [Int.pow_succ]
  omega
 have i1 : InL 1000000000 [dvF y] := .one (by omega) (by omega)
 have hcx := cmpLe hx hy tx ty
 obtain ⟨X, hX⟩ : ∃ X : Nat, valL 1000000000 x = X := ⟨(valL 1000000000 x).toNat, by omega⟩
 obtain ⟨Y, hY⟩ : ∃ Y : Nat, valL 1000000000 y = Y := ⟨(valL 1000000000 y).toNat, by omega⟩
 have ex : x = limbs 1000000000 X := by
  have h : x = limbs 1000000000 (valL 1000000000 x).toNat := limbs_eq (b := 1000000000) (by omega) hx tx
  rw [hX, Int.toNat_natCast] at h
  exact h
 refine ⟨hx, hy, fun hc => ?_, fun hc => ⟨fun h1 => ?_, fun h1 => ?_⟩⟩
 ·have hlt : X < Y := by omega
  rw [hX, hY, Int.toNat_natCast, Int.toNat_natCast, Nat.div_eq_of_lt hlt, Nat.mod_eq_of_lt hlt, limbs_zero, ← ex]
  exact ⟨rfl, rfl, avM_refl _⟩
 ·have d4 := hy.get (by omega) 0
  have ev : valL 1000000000 y = y.getD 0 0 := by
   have := valL_drop (1000000000 : Int) (l := y) (z := 0) (by omega)
   rw [List.drop_zero, List.drop_of_length_le (l := y) (i := 0 + 1) (by omega), valL_nil, Int.mul_zero, Int.add_zero] at this
   exact this
  rw [ev] at y0 ⊢
  exact ⟨⟨by omega, by omega⟩, hx, ⟨by omega, by omega⟩, by omega, rfl, avM_refl _, avM_refl _⟩
 have d4 := hy.get (by omega) (y.length - 1)
 have ey : y = limbs 1000000000 Y := by
  have h : y = limbs 1000000000 (valL 1000000000 y).toNat := limbs_eq (b := 1000000000) (by omega) hy ty
  rw [hY, Int.toNat_natCast] at h
  exact h
 have hxy : y.length ≤ x.length := by
  have := limbs_len_mono (b := 1000000000) (m := Y) (n := X) (by omega) (by omega)
  rw [← ex, ← ey] at this
  exact this
 clear hF ex ey pe
 generalize prL x [dvF y] = P at *
 generalize prL y [dvF y] = W at *
 generalize dvF y = f at *
 generalize hA : valL 1000000000 x * f = A at *
 generalize hB : valL 1000000000 y * f = B at *
 simp only [List.length_append, List.length_singleton, List.length_replicate, vl]
 have lz : ∀ z, (P ++ [0] ++ List.replicate z 0).length = P.length + 1 + z := fun z => by simp; omega
 have zs : ∀ z, P ++ [0] ++ List.replicate (z + 1) 0 = (P ++ [0] ++ List.replicate z 0) ++ [(0 : Int)] := fun z => by rw [List.replicate_succ', ← List.append_assoc]
 refine ⟨⟨by omega, by omega⟩, ⟨by omega, by omega⟩, ⟨by omega, by omega⟩, by omega, ⟨by omega, by omega⟩, hx, i1, by omega, by omega, by omega, hy, i1, by omega, by omega, ⟨0, .inl rfl, ⟨rfl, rfl⟩, rfl, fun i j hi hj => ?_⟩, fun z hz => ⟨⟨by omega, by omega⟩, fun hlt => ⟨by omega, z + 1, ⟨.inr (by omega), by omega⟩, ⟨rfl, by omega⟩, by omega, fun i j hi hj => ?_⟩, fun hge => ?_⟩⟩
 ·rw [List.replicate_zero, List.append_nil]
  exact snocI P 0 i j hi hj
 ·have := snocI (P ++ [0] ++ List.replicate z 0) 0 i j (by rw [lz]; exact hi) hj
  rw [lz, ← zs] at this
  exact this
 obtain ⟨m, hm⟩ : ∃ m, P.length + 1 + z = m + y.length := ⟨P.length + 1 + z - y.length, by omega⟩
 have e1 : max (P.length + 1) (x.length + 1) - y.length = m := by omega
 have e2 : ((m + y.length : Nat) : Int) - (y.length : Int) = (m : Int) := by omega
 simp only [hm, e1, e2, Int.toNat_natCast]
 obtain ⟨s1, s2, s3, s4⟩ := dv_start (m := m) (n := y.length) (z := z) pi (by omega) hm vp
 refine ⟨⟨by omega, by omega⟩, ⟨by omega, by omega, by omega⟩, ⟨by omega, by omega⟩, ⟨⟨m, List.replicate m 0, P ++ [0] ++ List.replicate z 0⟩, ⟨⟨.start (by omega) s4 s3 s1 (by rw [s2, pv]), Nat.le_refl _⟩, rfl⟩, ⟨s4, fun _ _ _ _ => rfl⟩, by simp, fun i j _ hj => zeroI _ i j hj⟩, fun d ⟨d1, d2⟩ => ?_⟩
 obtain ⟨j, q, u⟩ := d
 simp only at d1 d2 ⊢
 have ul := d1.ul
 have ql := d1.ql
 simp only [(slB ul.symm).1, (slB ul.symm).2, (slB ql.symm).1, (slB ql.symm).2, vc_tt]
 refine ⟨fun hj => ?_, fun hj => ?_⟩
 rotate_left
 ·obtain rfl : j = 0 := by omega
  obtain ⟨F, rfl⟩ : ∃ F : Nat, f = F := ⟨f.toNat, by omega⟩
  have hAn : A = ((X * F : Nat) : Int) := by rw [← hA, hX, Int.natCast_mul]
  have hBn : B = ((Y * F : Nat) : Int) := by rw [← hB, hY, Int.natCast_mul]
  have F0 : 0 < F := by omega
  have Y0 : 0 < Y := by omega
  rw [hAn, hBn] at d1
  obtain ⟨r1, r2⟩ := DivJ.end_ (b := 1000000000) (by omega) (Nat.mul_pos Y0 F0) d1
  rw [Nat.mul_div_mul_right _ _ F0] at r1
  rw [Nat.mul_mod_mul_right] at r2
  have hlen : (limbs 1000000000 (X % Y * F)).length ≤ W.length := by
   refine limbs_len_le (b := 1000000000) (by omega) ?_
   have h1 := valL_lt (b := 1000000000) (by omega) vi
   rw [vv, hBn] at h1
   have h2 : X % Y * F ≤ Y * F := Nat.mul_le_mul_right _ (Nat.le_of_lt (Nat.mod_lt _ Y0))
   have h3 : ((X % Y * F : Nat) : Int) ≤ ((Y * F : Nat) : Int) := Int.ofNat_le.2 h2
   exact Int.lt_of_le_of_lt h3 h1
  have hv : valL 1000000000 (limbs 1000000000 (X % Y * F)) = ((X % Y * F : Nat) : Int) := limbs_val (b := 1000000000) (by omega) _
  rw [r1, r2, hX, hY, hv]
  simp only [Int.toNat_natCast, Nat.mul_div_cancel _ F0]
  exact ⟨limbs_in (b := 1000000000) (by omega) _, ⟨by omega, by omega⟩, by omega, rfl, avM_refl _, avM_refl _⟩
 obtain ⟨k, rfl⟩ : ∃ k, j = k + 1 := ⟨j - 1, by omega⟩
 have hk1 : ((k + 1 : Nat) : Int) - 1 = (k : Int) := by omega
 have hki : ∀ i : Nat, ((k : Int) + (i : Int)).toNat = k + i := fun i => by omega
 simp only [hk1, hki, Int.toNat_natCast]
 have n2 : 2 ≤ W.length := by omega
 have d1' : DivJ 1000000000 A B W.length m (k + 1) q u := by rw [vl]; exact d1
 have vt' : 0 < W.getD (W.length - 1) 0 := by rw [vl]; exact vt
 obtain ⟨g1, g2⟩ := estF_ok vi vv n2 vt' (by omega : k < m) d1'
 rw [vl] at g2
 have ui := d1.ui
 have hi0 : ∀ i, k + 1 + W.length ≤ i → u.getD i 0 = 0 := fun i hi => d1.hi i (by omega)
 refine ⟨⟨by omega, by omega⟩, ui, vi, by omega, by omega, ⟨by omega, by omega⟩, vt, g2, ⟨_, g1, rfl⟩, fun Q ⟨Q0, Q1, Q2⟩ => ⟨⟨by omega, by omega⟩, ⟨⟨0, 0, u⟩, ⟨⟨.start ui Q0, Nat.zero_le _⟩, rfl, rfl⟩, rfl, fun _ _ _ _ => rfl⟩, fun t ⟨t1, t2⟩ => ⟨fun ht => ?_, fun ht => ?_⟩⟩⟩
 ·obtain ⟨⟨b0, b1⟩, hs⟩ := t1.step (by omega) vi Q0 (by omega : k + t.i < u.length)
  have tl := t1.len
  have w1 := vi.get (by omega) t.i
  have w2 := t1.in_.get (by omega) (k + t.i)
  have p0 : 0 ≤ Q * W.getD t.i 0 := Int.mul_nonneg Q0 w1.1
  have p1 : Q * W.getD t.i 0 ≤ Q * 1000000000 := Int.mul_le_mul_of_nonneg_left (by omega) Q0
  have c0 := t1.c0
  have c1 := t1.c1
  have h0 := hs.c0
  have h1 := hs.c1
  have o1 : -9223372036854775808 ≤ t.w.getD (k + t.i) 0 - t.c ∧ t.w.getD (k + t.i) 0 - t.c ≤ 9223372036854775807 := ⟨by omega, by omega⟩
  have o2 : -9223372036854775808 ≤ Q * W.getD t.i 0 ∧ Q * W.getD t.i 0 ≤ 9223372036854775807 := ⟨by omega, by omega⟩
  clear p0 p1 w2
  generalize t.w.getD (k + t.i) 0 - t.c - Q * W.getD t.i 0 = n at *
  refine ⟨⟨by omega, by omega⟩, ⟨by omega, by omega⟩, o1, by omega, o2, ⟨by omega, by omega⟩, fun hn => ?_, fun hn => ?_⟩
  ·have hcb : carryB 1000000000 n = (-n + 1000000000 - 1).tdiv 1000000000 := by unfold carryB; rw [(ltB_iff _ _).2 hn]; rfl
   rw [hcb] at hs h0 h1
   generalize (-n + 1000000000 - 1).tdiv 1000000000 = C at *
   exact ⟨⟨by omega, by omega⟩, ⟨by omega, by omega⟩, ⟨by omega, by omega⟩, ⟨by omega, by omega⟩, ⟨by omega, by omega⟩, ⟨by omega, by omega⟩, ⟨by omega, by omega⟩, ⟨by omega, by omega⟩, ⟨by omega, by omega⟩, ⟨t.i + 1, C, _⟩, ⟨⟨⟨hs, by simp only; omega⟩, by simp only; omega⟩, rfl, by simp only; omega⟩, by simp, fun i j' _ => setI _ _ _ (by omega) i j'⟩
  ·have hcb : carryB 1000000000 n = 0 := by unfold carryB; rw [show ltB n 0 = false from Bool.eq_false_iff.2 fun e => by have := (ltB_iff _ _).1 e; omega]; rfl
   rw [hcb] at hs h0 h1
   exact ⟨⟨by omega, by omega⟩, ⟨by omega, by omega⟩, ⟨by omega, by omega⟩, ⟨by omega, by omega⟩, ⟨t.i + 1, 0, _⟩, ⟨⟨⟨hs, by simp only; omega⟩, by simp only; omega⟩, rfl, by simp only; omega⟩, by simp, fun i j' _ => setI _ _ _ (by omega) i j'⟩
 have ti : t.i = W.length + 1 := by omega
 have tl := t1.len
 have t3 : TakI 1000000000 u W k Q (W.length + 1) t.w t.c := ti ▸ t1
 obtain ⟨t4, t5⟩ := t3.fits (by omega) (by omega : k ≤ u.length) hi0
 rw [vv] at t4 t5
 refine ⟨fun hc => ?_, fun hc => ?_⟩
 ·have hlt := t5 hc
  have u0 := valL_nonneg (b := 1000000000) (by omega) (ui.drop k)
  have Qp : 0 < Q := by
   refine Decidable.byContradiction fun hn => ?_
   have : Q = 0 := by omega
   rw [this, Int.zero_mul] at hlt
   omega
  refine ⟨⟨by omega, by omega⟩, ⟨⟨0, 0, t.w⟩, ⟨⟨.start t1.in_ Q0, Nat.zero_le _⟩, rfl, rfl⟩, rfl, fun _ _ _ _ => rfl⟩, fun r ⟨r1, r2⟩ => ⟨fun hr => ?_, fun hr => ?_⟩⟩
  ·obtain ⟨⟨b0, b1⟩, hs⟩ := r1.step (by omega) vi Q0 (by omega : k + r.i < t.w.length)
   have rl := r1.len
   have w1 := vi.get (by omega) r.i
   have w2 := r1.in_.get (by omega) (k + r.i)
   have p0 : 0 ≤ Q * W.getD r.i 0 := Int.mul_nonneg Q0 w1.1
   have p1 : Q * W.getD r.i 0 ≤ Q * 1000000000 := Int.mul_le_mul_of_nonneg_left (by omega) Q0
   have c0 := r1.c0
   have c1 := r1.c1
   have h0 := hs.c0
   have h1 := hs.c1
   refine ⟨⟨by omega, by omega⟩, ⟨by omega, by omega⟩, by omega, ⟨by omega, by omega⟩, ⟨by omega, by omega⟩, ⟨by omega, by omega⟩, ⟨by omega, by omega⟩, ⟨by omega, by omega⟩, ⟨by omega, by omega⟩, ⟨by omega, by omega⟩, ⟨r.i + 1, _, _⟩, ⟨⟨⟨hs, by simp only; omega⟩, by simp only; omega⟩, rfl, by simp only; omega⟩, by simp, fun i j' _ => setI _ _ _ (by omega) i j'⟩
  ·have ri : r.i = W.length + 1 := by omega
   have r3 : r.w = u := RstI.end_ (by omega) ui (by omega : k ≤ u.length) hi0 t3 (ri ▸ r1 : RstI 1000000000 t.w W k Q (W.length + 1) r.w r.c)
   rw [r3]
   exact ⟨⟨by omega, by omega⟩, Q - 1, ⟨⟨⟨by omega, by omega, by rw [Int.sub_add_cancel]; exact hlt⟩, by omega⟩, rfl⟩, rfl, fun _ _ _ _ => rfl⟩
 ·have hs := d1'.step (by omega) vi vv (by omega : k < m) Q0 Q2 t3 hc
  rw [vl] at hs
  exact ⟨⟨by omega, by omega⟩, ⟨by omega, by omega⟩, ⟨k, q.set k Q, t.w⟩, ⟨⟨⟨hs, by simp only; omega⟩, by simp only; omega⟩, by simp only⟩, ⟨rfl, fun _ _ _ _ => rfl⟩, by simp, fun i j' _ => setI _ _ _ (by omega) i j'⟩
theorem idivL_C (x : List Int) (y : List Int) (hx : InL 1000000000 x) (hy : InL 1000000000 y) (tx : trimL x = x) (ty : trimL y = y) (hn : y.length ≠ 0) (hlx : x.length ≤ 100000000) (hly : y.length ≤ 100000000) : PureCall Tryz.prog [] 232 [slE x, slE y] (.tup 2 (listFn [slE (limbs 1000000000 ((valL 1000000000 x).toNat / (valL 1000000000 y).toNat)), slE (limbs 1000000000 ((valL 1000000000 x).toNat % (valL 1000000000 y).toNat))])) :=
 pure_of_vc (T := Tdv) (an := idv_an x (valL 1000000000 x * dvF y) (valL 1000000000 y * dvF y) y.length (max ((prL x [dvF y]).length + 1) (x.length + 1) - y.length)) mixed Tdv_sound (Eq.mp (by kernel_rfl) (idivL_vc x y hx hy tx ty hn hlx hly))
theorem idivL_T : PureT Tryz.prog [] 232 idivL_t := by
 intro xs ps r h hp
 unfold idivL_t at h
 split at h
 ·skip
  rename_i x_x x_y
  cases h
  obtain ⟨q0, q1, q2, q3, q4, q5, q6, q7, q8, -⟩ := allC hp
  exact weaken (ys := [slE (intsOf x_x), slE (intsOf x_y)]) ⟨slE_sound q0, slE_sound q1, trivial⟩ (idivL_C (intsOf x_x) (intsOf x_y) q2 q3 q4 q5 q6 q7 q8)
 ·cases h
end Go.Te
