/- kingpostlaw53.SpanRafters: the walk. -/
import Derived.Test.YtdkpceodckdcfaaGreatDoorTeRd
set_option linter.unusedSimpArgs false
set_option linter.unusedVariables false
namespace Go.Te
open Go Go.Sx Go.Proofs Go.Ar Go.RowKit
set_option maxRecDepth 100000
set_option maxHeartbeats 4000000
def strsOf (x : AV) : List Str := slD x
def longB (a : Str) : Bool := ltB 12 a.length
def long_t : List AV → Option (List Cond × AV)
 | [.str a] => some ([], .b (longB a))
 | _ => none
theorem long_vc (a : List UInt8) :
 bndL [AV.str a] → ltB (12 : Int) (lZ a) = longB a := by
 delta lZ
 intro hb
 rfl
theorem long_C (a : List UInt8) : PureCall Tryz.prog [] 42 [.str a] (.b (longB a)) :=
 pure_of_vc (T := T0) (an := .auto) mixed tb0_sound (Eq.mp (by kernel_rfl) (long_vc a))
theorem long_T : PureT Tryz.prog [] 42 long_t := by
 intro xs ps r h hp
 unfold long_t at h
 split at h
 ·skip
  rename_i a
  cases h
  exact weaken (ys := [.str a]) ⟨avM_refl _, trivial⟩ (long_C a)
 ·cases h
theorem conN_vc (l : List Str) :
 let q1 := (AV.xl false 1 (lN l) fun i j => AV.str (gD l i Enc.dflt)); let q2 := (AV.fn (Fn.func (42 : FuncId)) 0 (fun (x : Nat) => AV.junk) 0 fun (x : Nat) => AV.junk); let q3 := (kI ∧ (lZ l) = (lZ l)); bndL [AV.xl false 1 (lN l) fun i j => AV.str (gD l i Enc.dflt), AV.fn (Fn.func (42 : FuncId)) 0 (fun (x : Nat) => AV.junk) 0 fun (x : Nat) => AV.junk] → (∃ (z : Nat), ((z ≤ lN l ∧ idxF longB (List.drop z l) z = idxF longB l 0) ∧ avM q1 q1 ∧ avM q2 q2 ∧ avM q1 q1 ∧ q3 ∧ kI ∧ iZ =
 (↑z : Int)) ∧ True) ∧ ∀ (z : Nat), z ≤ lN l ∧ idxF longB (List.drop z l) z = idxF longB l 0 → bsplit (ltB (↑z : Int) (lZ l)) (bsplit (DB.db (iZ ≤ (↑z : Int) ∧ (↑z : Int) < (lZ l))) (bsplit (longB (gD l (Int.toNat (↑z : Int)) Enc.dflt)) (leB iZ (↑z : Int) = List.any l longB) (bsplit (DB.db (inK .i64 ((↑z : Int) + iO))) (∃ (z' : Nat), (((z' ≤ lN l ∧ idxF longB (List.drop z' l) z' = idxF longB l 0) ∧ lN l - z' < lN l - z) ∧ avM q1 q1 ∧ avM q2 q2 ∧ avM q1 q1 ∧ q3 ∧ kI ∧ (↑z : Int) +
 iO = (↑z' : Int)) ∧ True) False)) False) (leB iZ (-1 : Int) = List.any l longB) := by
 delta kI lZ lN gD iZ iO
 dsimp only
 intro hb
 have hl : l.length ≤ 9223372036854775807 := hb.1.1
 have e2 : (Enc.dflt : Str) = [] := rfl
 simp only [sS, agD_row, agOk_row, agD_row', agOk_row', okIn, okIn', deI, deI', okR, okR', deR, deR', deRo, deRo', e2]
 refine ⟨⟨0, ⟨by omega, rfl⟩, rfl⟩, fun z ⟨h1, h2⟩ => ⟨fun hz => ⟨by omega, (bsplit_iff (t := longB (l.getD z []))).2 ⟨fun hp => ?_, fun hp => ?_⟩⟩, fun hz => ?_⟩⟩
 ·rw [getD_drop (d := []) (by omega), idxF, hp] at h2
  rw [← idxF_any _ l 0, ← h2]; rfl
 ·rw [getD_drop (d := []) (by omega), idxF, hp] at h2
  exact ⟨by simp only [inK]; omega, z + 1, ⟨⟨by omega, h2⟩, by omega⟩, by omega⟩
 ·rw [show z = l.length by omega, List.drop_length] at h2
  rw [← idxF_any _ l 0, ← h2]; rfl
def eqI_an (a b : List Int) : Ann :=
 .two .auto (.two .auto (.two (.two .auto (.one (.loop Nat (fun σ z => [(0, σ.tm 0), (1, σ.tm 1), (12, σ.tm 12), (13, .i z)]) (fun σ z => []) 0 (fun σ z => z ≤ a.length ∧ ∀ i, i < z → a.getD i 0 = b.getD i 0) (fun σ z => a.length - z) .auto))) .auto))
def eqI_t : List AV → Option (List Cond × AV)
 | [x_a, x_b] => some ([.b (slOk Int x_a), .b (slOk Int x_b)], .b ((intsOf x_a) == (intsOf x_b)))
 | _ => none
theorem eqI_vc (a : List Int) (b : List Int) :
 let q1 := (AV.xl false 1 (lN a) fun i j => aI (gD a i Enc.dflt)); let q2 := (AV.xl false 1 (lN b) fun i j => aI (gD b i Enc.dflt)); let q3 := (kI ∧ (lZ a) = (lZ a)); bndL [AV.xl false 1 (lN a) fun i j => aI (gD a i Enc.dflt), AV.xl false 1 (lN b) fun i j => aI (gD b i Enc.dflt)] → bsplit ((lZ a) != (lZ b)) (false = (a == b)) ((∃ (z : Nat), ((z ≤ lN a ∧ ∀ (i :
 Nat), i < z → gD a i iZ = gD b i iZ) ∧ avM q1 q1 ∧ avM q2 q2 ∧ q3 ∧ kI ∧ iZ = (↑z : Int)) ∧ True) ∧ ∀ (z : Nat), (z ≤ lN a ∧ ∀ (i : Nat), i < z → gD a i iZ = gD b i iZ) → bsplit (ltB (↑z : Int) (lZ a)) (bsplit (DB.db (iZ ≤ (↑z : Int) ∧ (↑z : Int) < (lZ a))) (bsplit (DB.db (iZ ≤ (↑z : Int) ∧ (↑z : Int) < (lZ b))) (bsplit (gD a (Int.toNat (↑z : Int)) Enc.dflt != gD b (Int.toNat (↑z : Int)) Enc.dflt) (false = (a == b)) (bsplit
 (DB.db (inK .i64 ((↑z : Int) + iO))) (∃ (z' : Nat), (((z' ≤ lN a ∧ ∀ (i : Nat), i < z' → gD a i iZ = gD b i iZ) ∧ lN a - z' < lN a - z) ∧ avM q1 q1 ∧ avM q2 q2 ∧ q3 ∧ kI ∧ (↑z : Int) + iO = (↑z' : Int)) ∧ True) False)) False) False) (true = (a == b))) := by
 delta kI lZ lN gD iZ iO aI
 dsimp only
 intro hb
 have e0 : (Enc.dflt : Int) = 0 := rfl
 simp only [sS, agD_row, agOk_row, agD_row', agOk_row', okIn, okIn', deI, deI', okR, okR', deR, deR', deRo, deRo', e0]
 refine ⟨fun h => (beq_eq_false_iff_ne.2 fun e => h (by rw [e])).symm, fun h => ⟨⟨0, ⟨Nat.zero_le _, fun i hi => absurd hi (Nat.not_lt_zero _)⟩, rfl⟩, fun z ⟨z1, z2⟩ => ⟨fun hz => ⟨⟨by omega, hz⟩, ⟨by omega, by omega⟩, fun h3 => (beq_eq_false_iff_ne.2 fun e => h3 (by rw [e])).symm, fun h3 => ⟨?_, z + 1, ⟨⟨by omega, fun i hi => ?_⟩, by omega⟩, by omega⟩⟩, fun hz => ?_⟩⟩⟩
 ·have h4 : a.length ≤ 9223372036854775807 := hb.1.1
  simp only [inK]; omega
 ·by_cases e : i = z
  ·rw [e]; exact h3
  ·exact z2 i (by omega)
 ·refine (beq_iff_eq.2 (List.ext_getElem (by omega) fun i h1 h2 => ?_)).symm
  have := z2 i (by omega)
  rw [List.getD_eq_getElem?_getD, List.getD_eq_getElem?_getD, List.getElem?_eq_getElem h1, List.getElem?_eq_getElem h2] at this
  exact this
theorem eqI_C (a : List Int) (b : List Int) : PureCall Tryz.prog [] 39 [slE a, slE b] (.b (a == b)) :=
 pure_of_vc (T := T0) (an := eqI_an a b) mixed tb0_sound (Eq.mp (by kernel_rfl) (eqI_vc a b))
theorem eqI_T : PureT Tryz.prog [] 39 eqI_t := by
 intro xs ps r h hp
 unfold eqI_t at h
 split at h
 ·skip
  rename_i x_a x_b
  cases h
  obtain ⟨q0, q1, -⟩ := allC hp
  exact weaken (ys := [slE (intsOf x_a), slE (intsOf x_b)]) ⟨slE_sound q0, slE_sound q1, trivial⟩ (eqI_C (intsOf x_a) (intsOf x_b))
 ·cases h
def conN_t : List AV → Option (List Cond × AV)
 | [x, .fn (.func f) 0 _ 0 _] => bif Nat.beq f 42 then some ([.b (slOk Str x)], .b ((strsOf x).any longB)) else none
 | _ => none
theorem conN_T : PureT Tryz.prog [] 41 conN_t := by
 intro xs ps r h hp
 unfold conN_t at h
 split at h
 ·rename_i x f a c
  cases hc : Nat.beq f 42 with
  | false => rw [hc] at h; cases h
  | true =>
   rw [hc] at h
   cases h
   obtain rfl := Nat.eq_of_beq_eq_true hc
   obtain ⟨q0, -⟩ := allC hp
   exact weaken (ys := [slE (strsOf x), fn0 42]) ⟨slE_sound q0, ⟨rfl, rfl, rfl, allB_zero, allB_zero⟩, trivial⟩
    (pure_of_vc (T := (T0.plus 42 long_t).body Tryz.prog [(95, idx_an (strsOf x) longB)]) (an := .auto) mixed (TbSound.body mixed (TbSound.plus tb0_sound long_T) _) (Eq.mp (by kernel_rfl) (conN_vc (strsOf x))))
 ·cases h
noncomputable def Traf (G : List (Nat × Obj)) : Tb := (((((((((tb0 G).plus 11 fine_t).plus 40 vsub_t).plus 41 conN_t).plus 43 qAdd_t).plus 44 (dash_t fun s => .str (ownS s))).plus 15 sallow_t).plus 37 mem_t).plus 39 eqI_t).plus 13 (inst [] (.b true))
theorem Traf_sound {G : List (Nat × Obj)} (hG : TabIn G) : TbSound Tryz.prog (Traf G) :=
 TbSound.plus (TbSound.plus (TbSound.plus (TbSound.plus (TbSound.plus (TbSound.plus (TbSound.plus (TbSound.plus (TbSound.plus tb0_sound (fine_T hG)) (vsub_T hG)) (PureT.mono conN_T)) (qAdd_T hG)) (PureT.mono trimP_T)) (sallow_T hG)) (mem_T hG)) (PureT.mono eqI_T)) (inst_T (awake_C hG))
theorem deMb (f : Bool) (l : List Mb) : mbsOf (AV.xl f 11 l.length fun i j => Enc.enc (l.getD i m0) j) = l := slD_xl f l 11
theorem okMb (f : Bool) (l : List Mb) : slOk Mb (AV.xl f 11 l.length fun i j => Enc.enc (l.getD i m0) j) = true := slOk_xl f l
theorem good_of {m : Mb} (h : (vsE m.to m.fr != 0 || [m.fr.x, m.fr.y, m.to.x, m.to.y].any longB || !(vsS m.to m.fr).x == [48] && !(vsS m.to m.fr).y == [48] || ltB (if m.d < m.w then m.d else m.w) 1 || ltB 1000 (if m.d > m.w then m.d else m.w)) = false) : goodB m = true := by
 rw [Bool.or_eq_false_iff, Bool.or_eq_false_iff, Bool.or_eq_false_iff, Bool.or_eq_false_iff, bne_eq_false_iff_eq] at h
 obtain ⟨⟨⟨⟨h1, h2⟩, h3⟩, h4⟩, h5⟩ := h
 rw [Bool.eq_false_iff, Ne, ltB_iff] at h4 h5
 have hw : (1 ≤ m.w ∧ m.w ≤ 1000) ∧ (1 ≤ m.d ∧ m.d ≤ 1000) := by
  split at h4 <;> split at h5 <;> omega
 unfold goodB
 rw [h1, show between m.w 1 1000 = true from between_iff.2 hw.1, show between m.d 1 1000 = true from between_iff.2 hw.2]
 have e : ([m.fr.x, m.fr.y, m.to.x, m.to.y].any fun a => ltB 12 a.length) = false := h2
 rw [e]
 show (true && !false && (vX m == [48] || vY m == [48]) && (true && true)) = true
 have h3 : (!vX m == [48] && !vY m == [48]) = false := h3
 revert h3
 cases vX m == [48] <;> cases vY m == [48] <;> decide
theorem meZ_in (l : List Row) (s q : Int) (ms : List Mb) (z : Nat) : meZ l s q ms (z + 1) = meZ l s q ms z ++ bif mbB l s q (ms.getD z m0) && leB 1 (ms.getD z m0).k && leB (ms.getD z m0).k 5 then [(z : Int)] else [] := by
 show _ ++ (bif (leB 1 (ms.getD z m0).k && leB (ms.getD z m0).k 5) && mbB l s q (ms.getD z m0) then [(z : Int)] else []) = _
 congr 2
 cases leB 1 (ms.getD z m0).k <;> cases leB (ms.getD z m0).k 5 <;> cases mbB l s q (ms.getD z m0) <;> rfl
def raf_an (c : Qu) (ms : List Mb) : Ann :=
 .two .auto (.two .auto (.two .auto (.two (.two .auto (.one (.loop MeS (fun σ z => [(1, σ.tm 1), (2, σ.tm 2), (25, σ.tm 25), (26, σ.tm 26), (5, .ns σ.nb 0 z.out.length), (27, .i z.i)]) (fun σ z => [(σ.nb, mArr z.out)]) 1 (fun σ z => z.i ≤ ms.length ∧ z.out = meZ c.l c.s c.q ms z.i ∧ ∀ i, i < z.i → goodB (ms.getD i m0) = true) (fun σ z => ms.length - z.i) .auto))) .auto)))
theorem raf_vc (G : List (Nat × Obj)) (c : Qu) (ms : List Mb) (hl : ∀ x ∈ ms, mbL x) :
 let q1 := (AV.agg 6 fun (i : Nat) => Enc.enc c (0 + i)); let q3 := (agD q1); let q2 := (!bsel false !fineB q3 || bsel false !fineB q3); let q4 := (AV.xl false 11 (lN ms) fun i j => Enc.enc (gD ms i Enc.dflt) j); let q5 := (kI ∧ (lZ ms) = (lZ ms)); let q7 := (AV.xl false 5 (lN (Qu.l c)) fun i j => Enc.enc (gD (Qu.l c) i Enc.dflt) j); let q6 := (25 = 25 ∧ 6 = 6 ∧ ((((avM q7 q7 ∧ kI ∧ Qu.w c = Qu.w c) ∧ kI ∧ Qu.d c = Qu.d c) ∧ kI ∧ Qu.s c = Qu.s c) ∧ IntKind.i64 =
 .i64 ∧ Qu.q c = Qu.q c) ∧ Qu.sp c = Qu.sp c); let q22 := (ByteArray.data (ByteArray.mk #[(48 : UInt8)])); let q30 := (slOk Row q7); let q32 := (slD q7); let q40 := (mbsOf q4); let q42 := (meE q32 (Qu.s c) (Qu.q c) q40 == iZ); let q41 := (!bsel true q42 || bsel true q42); let q44 := (meV q32 (Qu.s c) (Qu.q c) q40); let q43 := (AV.xl false 1 (lN q44) fun i j => aI (gD q44 i Enc.dflt)); bndL [AV.agg 6 (Enc.enc c), AV.xl false 11 (lN ms) fun i j => Enc.enc (gD ms i Enc.dflt) j] → bsplit (agOk Qu q1) (bsplit q2 (bsplit q2 (bsplit (!!!fineB q3
 || bsel false !fineB q3) (bsplit (bif !fineB q3 then true else ltB (6 : Int) (lZ ms)) (Wk [] [] ∧ true = true) ((∃ (z : MeS), ((MeS.i z ≤ lN ms ∧ MeS.out z = meZ (Qu.l c) (Qu.s c) (Qu.q c) ms (MeS.i z) ∧ ∀ (i : Nat), i < MeS.i z → goodB (gD ms i m0) = true) ∧ avM q4 q4 ∧ (nat_lit 0 = 0 ∧ 0 = 0) ∧ avM q4 q4 ∧ q5 ∧ (some (Non Nat) = some (Non Nat) ∧ 0 = 0 ∧ lN (MeS.out z) = 0) ∧ kI ∧ iZ = (↑(MeS.i z) : Int)) ∧ q6 ∧ lN (MeS.out z) = 0) ∧ ∀ (z : MeS), let q9 := (fun (i : Nat) => if 0 ≤ i ∧ i < 0 + TypeInfo.size (Tables.types
 (Program.toTables Tryz.prog))[65] then (fun (i : Nat) => (fun i j => Enc.enc (gD ms i Enc.dflt) j) (Int.toNat (↑(MeS.i z) : Int)) (0 + i)) (i - 0) else zcell (Value.agg #[Value.int .i64 iZ, Value.int .i64 iZ, Value.int .i64 iZ, Value.string (ByteArray.mk #[]), Value.string (ByteArray.mk #[]), Value.string (ByteArray.mk #[]), Value.string (ByteArray.mk #[]), Value.string (ByteArray.mk #[]), Value.string (ByteArray.mk #[]), Value.int .i64 iZ, Value.int .i64 iZ]) i); let q8 := (Spt.mk (AV.bytes (q9 6)) (AV.bytes (q9 7)) (AV.bytes (q9 8))); let q10 :=
 (Spt.mk (AV.bytes (q9 3)) (AV.bytes (q9 4)) (AV.bytes (q9 5))); let q12 := (vsE q8 q10 != iZ); let q11 := (!bsel false q12 || bsel false q12); let q15 := (gD ms (Int.toNat (↑(MeS.i z) : Int)) Enc.dflt); let q14 := (Mb.fr q15); let q16 := (Mb.to q15); let q13 := (AV.xl true 1 4 (Sx.rowAt [fun (x : Nat) => AV.str (Spt.x q14), fun (x : Nat) => AV.str (Spt.y q14), fun (x : Nat) => AV.str (Spt.x q16), fun (x : Nat) => AV.str (Spt.y q16)])); let q19 := (strsOf q13); let q18 := (bif vsE q8 q10 != iZ then true else List.any q19 longB); let q17 := (!bsel false q18 || bsel false
 q18); let q21 := (vsS q8 q10); let q20 := (!(bsel false q18 && bsel true !Spt.x q21 == Array.toList q22) || bsel false q18 && bsel true !Spt.x q21 == Array.toList q22); let q24 := (bif bif vsE q8 q10 != iZ then true else List.any q19 longB then true else bif !Spt.x q21 == Array.toList q22 then !Spt.y q21 == Array.toList q22 else false); let q23 := (!bsel false q24 || bsel false q24); let q27 := (if Mb.d q15 < Mb.w q15 then Mb.d q15 else Mb.w q15); let q26 := (bif bif bif vsE q8 q10 != iZ then true else List.any q19 longB then true else bif !Spt.x q21 == Array.toList q22 then
 !Spt.y q21 == Array.toList q22 else false then true else ltB q27 iO); let q25 := (!bsel false q26 || bsel false q26); let q28 := (Spt.x q21); let q29 := (Spt.y q21); let q31 := (ownS (frS (fun (x1 x2 : Int) => x1 + x2) q28 q29)); let q33 := (Mb.w q15); let q34 := (Mb.d q15); let q35 := (!bsel true !alB q32 q33 q34 (Qu.s c) (Qu.q c) q31 || bsel true !alB q32 q33 q34 (Qu.s c) (Qu.q c) q31); let q38 := (Mb.k q15); let q37 := (bif !alB q32 q33 q34 (Qu.s c) (Qu.q c) q31 then leB iO q38 else false); let q36 := (!bsel true q37 || bsel true q37); let q39 := (DB.db (inK .i64 ((↑(MeS.i z) :
 Int) + iO))); let q45 := (AV.xl false 1 (lN (MeS.out z)) fun i j => aI (gD (MeS.out z) (0 + i) Enc.dflt)); let q46 := (bif meE q32 (Qu.s c) (Qu.q c) q40 == iZ then intsOf q43 == intsOf q45 else false); (MeS.i z ≤ lN ms ∧ MeS.out z = meZ (Qu.l c) (Qu.s c) (Qu.q c) ms (MeS.i z) ∧ ∀ (i : Nat), i < MeS.i z → goodB (gD ms i m0) = true) → bsplit (ltB (↑(MeS.i z) : Int) (lZ ms)) (bsplit (DB.db (iZ ≤ (↑(MeS.i z) : Int) ∧ (↑(MeS.i z) : Int) < (lZ ms))) ((lN (Spt.x q8) ≤
 9223372036854775807 ∧ lN (Spt.y q8) ≤ 9223372036854775807 ∧ lN (Spt.z q8) ≤ 9223372036854775807) ∧ (lN (Spt.x q10) ≤ 9223372036854775807 ∧ lN (Spt.y q10) ≤ 9223372036854775807 ∧ lN (Spt.z q10) ≤ 9223372036854775807) ∧ bsplit q11 (bsplit q11 (bsplit q11 (bsplit q11 (bsplit q11 (bsplit q11 (bsplit q11 (bsplit q11 (bsplit q11 (bsplit q11 (bsplit q11 (bsplit q11 (bsplit q11 (bsplit (!bsel false q12 || slOk Str q13) (bsplit (!!vsE q8 q10 != iZ || bsel false q12) (bsplit q17 (bsplit q17 (bsplit q17 (bsplit q20 (bsplit q20 (bsplit q17 (bsplit (!bsel
 false q18 || (!!Spt.x q21 == Array.toList q22 || bsel false q18 && bsel true !Spt.x q21 == Array.toList q22)) (bsplit ((!!bif vsE q8 q10 != iZ then true else List.any q19 longB) || bsel false q18) (bsplit q23 (bsplit q23 (bsplit q23 (bsplit q23 (bsplit q23 (bsplit ((!!bif bif vsE q8 q10 != iZ then true else List.any q19 longB then true else bif !Spt.x q21 == Array.toList q22 then !Spt.y q21 == Array.toList q22 else false) || bsel false q24) (bsplit q25 (bsplit q25 (bsplit q25 (bsplit q25 (bsplit q25 (bsplit ((!!bif bif bif vsE q8 q10 != iZ then true else List.any q19 longB
 then true else bif !Spt.x q21 == Array.toList q22 then !Spt.y q21 == Array.toList q22 else false then true else ltB q27 iO) || bsel false q26) (bsplit (bif bif bif bif vsE q8 q10 != iZ then true else List.any q19 longB then true else bif !Spt.x q21 == Array.toList q22 then !Spt.y q21 == Array.toList q22 else false then true else ltB q27 iO then true else ltB (1000 : Int) (if Mb.d q15 > Mb.w q15 then Mb.d q15 else Mb.w q15)) (Wk [] [] ∧ true = true) (lN q28 ≤ 9223372036854775807 ∧ lN q29 ≤ 9223372036854775807 ∧ bsplit (frE (fun (x1 x2 : Int) => x1 + x2) q28
 q29 != iZ) (false = true) (bsplit q30 (lN q31 ≤ 4294967280 ∧ bsplit (alE q32 q33 q34 (Qu.s c) (Qu.q c) q31 != iZ) (false = true) (bsplit q35 (bsplit q35 (bsplit (!!alB q32 q33 q34 (Qu.s c) (Qu.q c) q31 || bsel true !alB q32 q33 q34 (Qu.s c) (Qu.q c) q31) (bsplit q36 (bsplit q36 (bsplit ((!bif !alB q32 q33 q34 (Qu.s c) (Qu.q c) q31 then leB iO q38 else false) || bsel true q37) (bsplit (bif bif !alB q32 q33 q34 (Qu.s c) (Qu.q c) q31 then leB iO q38 else false then leB q38 (5 : Int) else false) (bsplit (DB.db ((lN (MeS.out z) + 1) * 8 ≤
 140737488355328)) (bsplit q39 (∃ (z' : MeS), (((MeS.i z' ≤ lN ms ∧ MeS.out z' = meZ (Qu.l c) (Qu.s c) (Qu.q c) ms (MeS.i z') ∧ ∀ (i : Nat), i < MeS.i z' → goodB (gD ms i m0) = true) ∧ lN ms - MeS.i z' < lN ms - MeS.i z) ∧ avM q4 q4 ∧ (nat_lit 0 = 0 ∧ 0 = 0) ∧ avM q4 q4 ∧ q5 ∧ (nat_lit 1 = 1 ∧ 0 = 0 ∧ lN (MeS.out z') = lN (MeS.out z) + 1) ∧ kI ∧ (↑(MeS.i z) : Int) + iO = (↑(MeS.i z') : Int)) ∧ q6 ∧ (3 : TypeId) = 3 ∧ 1 = 1 ∧ lN (MeS.out z') = lN (MeS.out z) + 1 ∧ ∀ (i j : Nat), i < lN (MeS.out
 z) + 1 → j < 1 → avM (if i < lN (MeS.out z) then aI (gD (MeS.out z) i Enc.dflt) else Sx.rowAt [fun (x : Nat) => aI (↑(MeS.i z) : Int)] (i - lN (MeS.out z)) j) (aI (gD (MeS.out z') i Enc.dflt))) False) False) (bsplit q39 (∃ (z' : MeS), (((MeS.i z' ≤ lN ms ∧ MeS.out z' = meZ (Qu.l c) (Qu.s c) (Qu.q c) ms (MeS.i z') ∧ ∀ (i : Nat), i < MeS.i z' → goodB (gD ms i m0) = true) ∧ lN ms - MeS.i z' < lN ms - MeS.i z) ∧ avM q4 q4 ∧ (nat_lit 0 = 0 ∧ 0 = 0) ∧ avM q4 q4 ∧ q5 ∧ (nat_lit 1
 = 1 ∧ 0 = 0 ∧ lN (MeS.out z') = lN (MeS.out z)) ∧ kI ∧ (↑(MeS.i z) : Int) + iO = (↑(MeS.i z') : Int)) ∧ q6 ∧ 3 = 3 ∧ 1 = 1 ∧ lN (MeS.out z') = lN (MeS.out z) ∧ ∀ (i j : Nat), i < lN (MeS.out z) → j < 1 → kI ∧ gD (MeS.out z) i Enc.dflt = gD (MeS.out z') i Enc.dflt) False)) False) False) False) False) False) False)) False))) False) False) False) False) False) False) False) False) False) False) False) False) False) False) False) False) False) False) False) False) False) False) False) False) False)
 False) False) False) False) False) False) False) False) False) False) False) (bsplit (slOk Mb q4) (bsplit q30 ((∀ (x : Mb), List.Mem x q40 → (lN (Spt.x (Mb.fr x)) ≤ 9223372036854775807 ∧ lN (Spt.y (Mb.fr x)) ≤ 9223372036854775807 ∧ lN (Spt.z (Mb.fr x)) ≤ 9223372036854775807) ∧ lN (Spt.x (Mb.to x)) ≤ 9223372036854775807 ∧ lN (Spt.y (Mb.to x)) ≤ 9223372036854775807 ∧ lN (Spt.z (Mb.to x)) ≤ 9223372036854775807) ∧ bsplit q41 (bsplit q41 (bsplit (!bsel true q42 || slOk Int q43) (bsplit (!bsel true q42 || slOk Int q45) (bsplit (!meE q32 (Qu.s c)
 (Qu.q c) q40 == iZ || bsel true q42) ((bsel true q46 = true → Wk [] []) ∧ bsplit ((!bif meE q32 (Qu.s c) (Qu.q c) q40 == iZ then intsOf q43 == intsOf q45 else false) || bsel true q46) ((bif bif meE q32 (Qu.s c) (Qu.q c) q40 == iZ then intsOf q43 == intsOf q45 else false then true else false) = true) False) False) False) False) False) False) False) False))) False) False) False) False := by
 delta kI lZ lN gD iZ iO aI
 dsimp only
 intro hb
 have e2 : (Enc.dflt : Row) = r0 := rfl
 have e3 : (Enc.dflt : Mb) = m0 := rfl
 have e0 : (Enc.dflt : Int) = 0 := rfl
 simp only [↓vc_db, ↓vc_gdb, row_one]
 have tz : ∀ h, (Tryz.prog.types[65]'h).size = 11 := fun _ => by kernel_rfl
 simp only [sS, agD_row, agOk_row, agD_row', agOk_row', okIn, okIn', deI, deI', okR, okR', deR, deR', deRo, deRo', e2, e3, e0, agD_qu, agOk_qu, agD_mb, agOk_mb, agD_mb', agOk_mb', mbS, bsS, tz, ↓reduceIte, Nat.reduceLT]
 have taut : ∀ x y : Bool, (!!x || (!!y || !x && !y)) = true := by decide
 refine bsplit_iff.2 ⟨fun _ => Wk.refl _, fun hf => ⟨⟨⟨0, []⟩, ⟨⟨Nat.zero_le _, rfl, fun i hi => absurd hi (Nat.not_lt_zero _)⟩, rfl, rfl⟩, rfl⟩, fun z ⟨z1, z2, z3⟩ => ⟨fun hz => ?_, fun hz => ?_⟩⟩⟩
 all_goals
  rw [Bool.or_eq_false_iff, Bool.not_eq_false', Bool.eq_false_iff, Ne, ltB_iff] at hf
  obtain ⟨hf, h6⟩ := hf
  obtain ⟨hA, _, _, _⟩ := fine_ask hf
 ·have hm : ms.getD z.i m0 ∈ ms := by
   rw [List.getD_eq_getElem?_getD, List.getElem?_eq_getElem (by omega)]
   exact List.getElem_mem (by omega)
  obtain ⟨lf, lt⟩ := hl _ hm
  obtain ⟨v1, v2⟩ := vsS_len (ms.getD z.i m0).to (ms.getD z.i m0).fr
  have hbl := meZ_len c.l c.s c.q ms z.i
  rw [← z2] at hbl
  refine ⟨⟨by omega, hz⟩, lt, lf, bsp_t (Bool.or_true _) (bsp_t (taut _ _) (bsplit_iff.2 ⟨fun _ => Wk.refl _, fun hc => ?_⟩))⟩
  have hg := good_of hc
  obtain ⟨r1, r2, r3, _, _⟩ := raf_law hA hg
  have lo := ownS_len (frS (fun x1 x2 => x1 + x2) (vX (ms.getD z.i m0)) (vY (ms.getD z.i m0)))
  have lq := frS_len (fun x1 x2 => x1 + x2) (vX (ms.getD z.i m0)) (vY (ms.getD z.i m0))
  have eX : (vsS (ms.getD z.i m0).to (ms.getD z.i m0).fr).x = vX (ms.getD z.i m0) := rfl
  have eY : (vsS (ms.getD z.i m0).to (ms.getD z.i m0).fr).y = vY (ms.getD z.i m0) := rfl
  have v1 : (vX (ms.getD z.i m0)).length ≤ 700 := v1
  have v2 : (vY (ms.getD z.i m0)).length ≤ 700 := v2
  rw [eX, eY]
  have hs := meZ_in c.l c.s c.q ms z.i
  rw [← z2] at hs
  have z4 : ∀ i, i < z.i + 1 → goodB (ms.getD i m0) = true := fun i hi => by
   by_cases e : i = z.i
   ·rw [e]; exact hg
   ·exact z3 i (by omega)
  refine ⟨by omega, by omega, fun h => absurd r1 h, fun _ => ⟨by omega, fun h => absurd r2 h, fun _ => ?_⟩⟩
  rw [r3]
  refine bsplit_iff.2 ⟨fun c2 => ?_, fun c2 => ?_⟩
  ·rw [c2, cond_true] at hs
   refine ⟨by omega, ⟨by omega, by omega⟩, ⟨z.i + 1, z.out ++ [(z.i : Int)]⟩, ⟨⟨⟨by simp only; omega, hs.symm, z4⟩, by simp only; omega⟩, by simp, by simp⟩, by simp, fun i j hi hj => ?_⟩
   by_cases hi2 : i < z.out.length
   ·rw [if_pos hi2, show (z.out ++ [(z.i : Int)]).getD i 0 = z.out.getD i 0 by simp [List.getD_eq_getElem?_getD, List.getElem?_append_left hi2]]
    exact avM_refl _
   ·obtain rfl : i = z.out.length := by omega
    rw [if_neg hi2, show (z.out ++ [(z.i : Int)]).getD z.out.length 0 = (z.i : Int) by simp [List.getD_eq_getElem?_getD]]
    exact avM_refl _
  ·rw [c2, cond_false, List.append_nil] at hs
   exact ⟨⟨by omega, by omega⟩, ⟨z.i + 1, z.out⟩, ⟨⟨⟨by simp only; omega, hs.symm, z4⟩, by simp only; omega⟩, rfl, by simp⟩, rfl, fun _ _ _ _ => rfl⟩
 ·have ez : z.i = ms.length := by omega
  rw [ez] at z2 z3
  have hA1 : askE c.l 1 1 c.s c.q = 0 := by
   obtain ⟨t1, _, _, t4, t5⟩ := ask_split.1 hA
   exact ask_split.2 ⟨t1, ⟨by omega, by omega⟩, ⟨by omega, by omega⟩, t4, t5⟩
  have e : meE c.l c.s c.q ms = 0 := by
   rw [me_few hA1 (by omega)]
   refine firstN_none fun i hi => ?_
   unfold meAt
   rw [(raf_law hA (z3 i hi)).2.2.2.1]
   cases between (ms.getD i m0).k 1 5 <;> rfl
  have ev : meV c.l c.s c.q ms = z.out := by unfold meV; rw [e, ← z2]; rfl
  simp only [okMb, deMb, deIo, ev, e, vc_tt]
  exact ⟨hl, fun _ => Wk.refl _, by simp⟩
theorem raf_C {G : List (Nat × Obj)} (hG : TabIn G) (c : Qu) (ms : List Mb) (hl : ∀ x ∈ ms, mbL x) : PureCall Tryz.prog G 10 [agE c, slE ms] (.b true) :=
 pure_of_vc (T := Traf G) (an := raf_an c ms) mixed (Traf_sound hG) (Eq.mp (by kernel_rfl) (raf_vc G c ms hl))
end Go.Te

namespace Go.Te
open Go Go.Sx Go.Proofs Go.Ar Go.RowKit
set_option maxRecDepth 100000
section
variable {H : Type} {enc : TypeId × Value → H} {W : World} {spare : Nat → Bool} {held : Bool}
theorem cellsSpot : Tryz.prog.cellsOf 63 = 3 := by kernel_rfl
theorem cellsMb : Tryz.prog.cellsOf 65 = 11 := by kernel_rfl
theorem read_strN {n : Nat} {cs : List Value} {x : DataW H × List MemPlace} (h : DataW.trod enc Tryz.prog W 0 spare held n 23 cs = some x) : ∃ s : ByteArray, cs = [.string s] ∧ s.data.toList.length ≤ 9223372036854775807 := by
 obtain ⟨s, e, _, hs⟩ := DataW.trod_string Tryz.underlying23 h
 refine ⟨s, e, ?_⟩
 have e2 : s.data.toList.length = s.size := Array.length_toList
 have e3 : maxLen = 9223372036854775807 := rfl
 rw [e2]
 omega
theorem read_spot {n : Nat} {cs : List Value} {x : DataW H × List MemPlace} (h : DataW.trod enc Tryz.prog W 0 spare held n 63 cs = some x) : ∃ g : Spt, Tells W g cs ∧ spL g := by
 obtain ⟨xs, m, _, _, hl, hx, hf⟩ := DataW.trod_struct Tryz.underlying63 h
 rw [cellsSpot] at hl
 match cs, hl with
 | [c0, c1, c2], _ =>
 have hx3 : xs.length = 3 := hx
 have g0 : DataW.trod enc Tryz.prog W 0 spare held m 23 (([c0, c1, c2].drop 0).take (Tryz.prog.cellsOf 23)) = xs[0]? := hf 0 _ rfl
 have g1 : DataW.trod enc Tryz.prog W 0 spare held m 23 (([c0, c1, c2].drop 1).take (Tryz.prog.cellsOf 23)) = xs[1]? := hf 1 _ rfl
 have g2 : DataW.trod enc Tryz.prog W 0 spare held m 23 (([c0, c1, c2].drop 2).take (Tryz.prog.cellsOf 23)) = xs[2]? := hf 2 _ rfl
 rw [cellsStr] at g0 g1 g2
 rw [List.getElem?_eq_getElem (by omega)] at g0 g1 g2
 obtain ⟨s0, e0, k0⟩ := read_strN g0
 obtain ⟨s1, e1, k1⟩ := read_strN g1
 obtain ⟨s2, e2, k2⟩ := read_strN g2
 simp only [List.drop_zero, List.drop_succ_cons, List.take_succ_cons, List.take_zero, List.cons.injEq, and_true] at e0 e1 e2
 subst e0 e1 e2
 refine ⟨⟨s0.data.toList, s1.data.toList, s2.data.toList⟩, fun j hj => ?_, k0, k1, k2⟩
 match j, hj with
 | 0, _ => exact ⟨rel_string s0, rfl⟩
 | 1, _ => exact ⟨rel_string s1, rfl⟩
 | 2, _ => exact ⟨rel_string s2, rfl⟩
theorem read_mb {n : Nat} {cs : List Value} {x : DataW H × List MemPlace} (h : DataW.trod enc Tryz.prog W 0 spare held n 65 cs = some x) : ∃ g : Mb, Tells W g cs ∧ mbL g := by
 obtain ⟨xs, m, _, _, hl, hx, hf⟩ := DataW.trod_struct Tryz.underlying65 h
 rw [cellsMb] at hl
 match cs, hl with
 | [c0, c1, c2, c3, c4, c5, c6, c7, c8, c9, c10], _ =>
 have hx3 : xs.length = 7 := hx
 have g0 : DataW.trod enc Tryz.prog W 0 spare held m 3 (([c0, c1, c2, c3, c4, c5, c6, c7, c8, c9, c10].drop 0).take (Tryz.prog.cellsOf 3)) = xs[0]? := hf 0 _ rfl
 have g1 : DataW.trod enc Tryz.prog W 0 spare held m 3 (([c0, c1, c2, c3, c4, c5, c6, c7, c8, c9, c10].drop 1).take (Tryz.prog.cellsOf 3)) = xs[1]? := hf 1 _ rfl
 have g2 : DataW.trod enc Tryz.prog W 0 spare held m 3 (([c0, c1, c2, c3, c4, c5, c6, c7, c8, c9, c10].drop 2).take (Tryz.prog.cellsOf 3)) = xs[2]? := hf 2 _ rfl
 have g3 : DataW.trod enc Tryz.prog W 0 spare held m 63 (([c0, c1, c2, c3, c4, c5, c6, c7, c8, c9, c10].drop 3).take (Tryz.prog.cellsOf 63)) = xs[3]? := hf 3 _ rfl
 have g4 : DataW.trod enc Tryz.prog W 0 spare held m 63 (([c0, c1, c2, c3, c4, c5, c6, c7, c8, c9, c10].drop 6).take (Tryz.prog.cellsOf 63)) = xs[4]? := hf 4 _ rfl
 have g5 : DataW.trod enc Tryz.prog W 0 spare held m 3 (([c0, c1, c2, c3, c4, c5, c6, c7, c8, c9, c10].drop 9).take (Tryz.prog.cellsOf 3)) = xs[5]? := hf 5 _ rfl
 have g6 : DataW.trod enc Tryz.prog W 0 spare held m 3 (([c0, c1, c2, c3, c4, c5, c6, c7, c8, c9, c10].drop 10).take (Tryz.prog.cellsOf 3)) = xs[6]? := hf 6 _ rfl
 rw [cellsInt] at g0 g1 g2 g5 g6
 rw [cellsSpot] at g3 g4
 rw [List.getElem?_eq_getElem (by omega)] at g0 g1 g2 g3 g4 g5 g6
 obtain ⟨z0, e0, _⟩ := read_int g0
 obtain ⟨z1, e1, _⟩ := read_int g1
 obtain ⟨z2, e2, _⟩ := read_int g2
 obtain ⟨z5, e5, _⟩ := read_int g5
 obtain ⟨z6, e6, _⟩ := read_int g6
 obtain ⟨p, t3, l3⟩ := read_spot g3
 obtain ⟨q, t4, l4⟩ := read_spot g4
 simp only [List.drop_zero, List.drop_succ_cons, List.take_succ_cons, List.take_zero, List.cons.injEq, and_true] at e0 e1 e2 e5 e6
 subst e0 e1 e2 e5 e6
 refine ⟨⟨z0, z1, z2, p, q, z5, z6⟩, fun j hj => ?_, l3, l4⟩
 match j, hj with
 | 0, _ => exact ⟨.v _, rfl⟩
 | 1, _ => exact ⟨.v _, rfl⟩
 | 2, _ => exact ⟨.v _, rfl⟩
 | 3, _ => exact t3 0 (by decide)
 | 4, _ => exact t3 1 (by decide)
 | 5, _ => exact t3 2 (by decide)
 | 6, _ => exact t4 0 (by decide)
 | 7, _ => exact t4 1 (by decide)
 | 8, _ => exact t4 2 (by decide)
 | 9, _ => exact ⟨.v _, rfl⟩
 | 10, _ => exact ⟨.v _, rfl⟩
theorem read_mbs {o : Option Addr} {n c : Nat} {d : DataW H} {ps : List MemPlace} (h : DataW.Trod enc Tryz.prog W 0 spare held 55 (.slice o n c) d ps) :
  ∃ l : List Mb, Rel W (Old W) rho0 (slE l) (.slice o n c) ∧ ∀ x ∈ l, mbL x := by
 obtain ⟨l, h1, h2⟩ := read_top (α := Mb) (Good := mbL) Tryz.underlying55 cellsMb ⟨⟨Nat.zero_le _, Nat.zero_le _, Nat.zero_le _⟩, Nat.zero_le _, Nat.zero_le _, Nat.zero_le _⟩ read_mb h
 refine ⟨l, h1, fun x hx => ?_⟩
 obtain ⟨i, hi, rfl⟩ := List.getElem_of_mem hx
 have := h2 i
 rw [List.getD_eq_getElem?_getD, List.getElem?_eq_getElem hi] at this
 exact this
end
end Go.Te
