/- kingpostref01: two small integers, writing, the greatest common divisor. -/
import Derived.Test.YtdkpceodckdcfaaGreatDoorTeI
import Derived.Test.YtdkpceodckdcfaaGreatDoorArN
import Derived.Test.YtdkpceodckdcfaaGreatDoorTeA
import Derived.Shelf.Strconv.Itoa3
import Derived.Shelf.Strings.Search2
import Derived.Shelf.LaysM
import Derived.Test.YtdkpceodckdcfaaGreatDoorProg
import Derived.Test.YtdkpceodckdcfaaGreatDoorSxS
import Derived.Shelf.Strconv.Atoi
import Derived.Shelf.Strings.SlTrimAscii
import Derived.Shelf.Strings.Prefix
set_option linter.unusedSimpArgs false
set_option linter.unusedVariables false
namespace Go.Te
open Go Go.Sx Go.Proofs Go.Ar Go.Lib
set_option maxRecDepth 100000
set_option maxHeartbeats 4000000
def r1two_t : List AV → Option (List Cond × AV)
 | [.str a, .str b] => some ([.p (intB a = true), .p (a.length ≤ 4294967280), .p (intB b = true), .p (b.length ≤ 4294967280)], .tup 3 (listFn [.i (bif leB a.length 17 then valI a else 0), .i (bif leB a.length 17 && leB b.length 17 then valI b else 0), .b (leB a.length 17 && leB b.length 17)]))
 | _ => none
theorem r1two_vc (a : List UInt8) (b : List UInt8) (ha : intB a = true) (hla : a.length ≤ 4294967280) (hb' : intB b = true) (hlb : b.length ≤ 4294967280) :
 bndL [AV.str a, AV.str b] → intB a = true ∧ lN a ≤ 4294967280 ∧ bsplit (!leB (lZ a) (17 : Int)) (3 = lN [AV.junk, AV.junk, AV.junk] ∧ ((True ∧ kI ∧ iZ = bif leB (lZ a) (17 : Int) then valI a else iZ) ∧ kI ∧ iZ = bif leB (lZ a) (17 : Int) && leB (lZ b) (17 : Int) then valI b else iZ) ∧ false = (leB (lZ a) (17 : Int) && leB (lZ b) (17 : Int))) (intB b = true ∧ lN b ≤ 4294967280 ∧ 3 = lN [AV.junk,
 AV.junk, AV.junk] ∧ ((True ∧ kI ∧ (bif leB (lZ a) (17 : Int) then valI a else iZ) = bif leB (lZ a) (17 : Int) then valI a else iZ) ∧ kI ∧ (bif leB (lZ b) (17 : Int) then valI b else iZ) = bif leB (lZ a) (17 : Int) && leB (lZ b) (17 : Int) then valI b else iZ) ∧ leB (lZ b) (17 : Int) = (leB (lZ a) (17 : Int) && leB (lZ b) (17 : Int))) := by
 delta kI lZ lN iZ
 intro hb
 simp only [sS, dS]
 refine ⟨ha, hla, ?_⟩
 refine bsplit_iff.2 ⟨fun c => ?_, fun c => ⟨hb', hlb, ?_⟩⟩
 ·rw [Bool.not_eq_true'] at c
  rw [c]
  exact ⟨rfl, ⟨rfl, rfl⟩, rfl⟩
 ·rw [Bool.not_eq_false'] at c
  rw [c]
  simp only [Bool.true_and]
  exact ⟨rfl, trivial, trivial⟩
theorem r1two_C (a : List UInt8) (b : List UInt8) (ha : intB a = true) (hla : a.length ≤ 4294967280) (hb' : intB b = true) (hlb : b.length ≤ 4294967280) : PureCall Tryz.prog [] 103 [.str a, .str b] (.tup 3 (listFn [.i (bif leB a.length 17 then valI a else 0), .i (bif leB a.length 17 && leB b.length 17 then valI b else 0), .b (leB a.length 17 && leB b.length 17)])) :=
 pure_of_vc (T := T0.plus 153 r1small_t) (an := .auto) mixed (TbSound.plus tb0_sound r1small_T) (Eq.mp (by kernel_rfl) (r1two_vc a b ha hla hb' hlb))
theorem r1two_T : PureT Tryz.prog [] 103 r1two_t := by
 intro xs ps r h hp
 unfold r1two_t at h
 split at h
 ·skip
  rename_i a b
  cases h
  obtain ⟨q0, q1, q2, q3, -⟩ := allC hp
  exact weaken (ys := [.str a, .str b]) ⟨avM_refl _, avM_refl _, trivial⟩ (r1two_C a b q0 q1 q2 q3)
 ·cases h
structure Big where
 neg : Bool
 l : List Int
instance : Enc Big := ⟨2, ⟨false, []⟩, fun c => listFn [.b c.neg, slE c.l], fun cs => ⟨AV.bool (cs 0), slD (cs 1)⟩, fun cs => isBool (cs 0) && slOk Int (cs 1), fun cs h j hj => by
 simp only [Bool.and_eq_true] at h
 match j, hj with
 | 0, _ => exact avM_of_eq (isBool_eq h.1)
 | 1, _ => exact slE_sound h.2⟩
structure WrS where
 i : Nat
 out : Str
structure WrT where
 j : Nat
 out : Str
def bArr (l : Str) : OB := .arr 5 1 l.length fun i _ => .v (.int .u8 ((l.getD i 0).toNat : Int))
def obBytes : OB → Str
 | .arr _ _ n els => (List.range n).map fun i => u8Of (els i 0)
 | _ => []
theorem mapB (o : Str) (z : Nat) : ((List.range (o.length - z)).map fun i => u8Of (AV.v (Value.int IntKind.u8 ((o.getD (z + i) 0).toNat : Int)))) = o.drop z := by
 apply List.ext_getElem
 ·simp
 ·intro i h1 h2
  simp only [List.length_map, List.length_range] at h1
  rw [List.getElem_map, List.getElem_range, List.getElem_drop]
  show UInt8.ofNat ((o.getD (z + i) 0).toNat : Int).toNat = _
  rw [Int.toNat_natCast, UInt8.ofNat_toNat, List.getD_eq_getElem?_getD, List.getElem?_eq_getElem (by omega)]
  rfl
theorem obB (o : Str) : obBytes (OB.arr 5 1 o.length fun i x => AV.v (Value.int IntKind.u8 ((o.getD i 0).toNat : Int))) = o := by
 have := mapB o 0
 simp only [Nat.zero_add, Nat.sub_zero, List.drop_zero] at this
 exact this
theorem getD_setS (l : Str) (i k : Nat) (v : UInt8) (hk : k < l.length) : (l.set k v).getD i 0 = if k = i then v else l.getD i 0 := by
 rw [List.getD_eq_getElem?_getD, List.getD_eq_getElem?_getD, List.getElem?_set]
 by_cases e : k = i
 ·subst e; rw [if_pos rfl, if_pos hk, if_pos rfl]; rfl
 ·rw [if_neg e, if_neg e]
theorem setB (l : Str) (k : Nat) (v : UInt8) (n : Int) (hn : n = (v.toNat : Int)) (hk : k < l.length) (i j : Nat) (hj : j < 1) : avM (if i = k ∧ j < 1 then AV.v (Value.int IntKind.u8 n) else AV.v (Value.int IntKind.u8 ((l.getD i 0).toNat : Int))) (AV.v (Value.int IntKind.u8 (((l.set k v).getD i 0).toNat : Int))) := by
 refine avM_of_eq ?_
 rw [getD_setS l i k v hk]
 by_cases e : i = k
 ·rw [if_pos ⟨e, hj⟩, if_pos e.symm, hn]
 ·rw [if_neg fun h => e h.1, if_neg fun h => e h.symm]
theorem strip_all {out : Str} : ∀ {z : Nat}, z ≤ out.length → (∀ i, i < z → out.getD i 0 = 48) → decV (out.drop z) = decV out
 | 0, _, _ => by rw [List.drop_zero]
 | z + 1, hz, h => by rw [strip_zero (by omega) (h z (by omega)), strip_all (by omega) fun i hi => h i (by omega)]
def r1write_an (x : Big) : Ann :=
 .two .auto (.two .auto (.two .auto (.two (.two .auto (.one (.loop WrS (fun σ z => [(1, σ.tm 1), (3, σ.tm 3), (4, .i (z.i : Int))]) (fun σ z => [(blkAt (σ.tm 3), bArr z.out)]) 0 (fun σ z => WrJ x.l z.i 0 z.out ∧ z.i ≤ x.l.length) (fun σ z => x.l.length - z.i) (.two .auto (.two (.one (.two .auto (.two .auto (.one (.loop WrT (fun σ z => [(1, σ.tm 1), (3, σ.tm 3), (4, σ.tm 4), (5, .i (((x.l.getD (AV.int (σ.tm 4)).toNat 0).toNat / 10 ^ z.j : Nat) : Int)), (6, .i ((z.j : Int) + 1))]) (fun σ z => [(blkAt (σ.tm 3), bArr z.out)]) 0 (fun σ z => WrJ x.l (AV.int (σ.tm 4)).toNat z.j z.out ∧ z.j ≤ 6) (fun σ z => 6 - z.j) .auto))))) .auto))))) (.two (.one (.loop Nat (fun σ z => [(1, σ.tm 1), (3, .ns (blkAt (σ.tm 3)) z (6 * x.l.length - z))]) (fun σ z => []) 0 (fun σ z => z < 6 * x.l.length ∧ ∀ i, i < z → (obBytes (σ.bl (blkAt (σ.tm 3)))).getD i 0 = 48) (fun σ z => 6 * x.l.length - z) .auto)) .auto))))
def r1write_t : List AV → Option (List Cond × AV)
 | [x_x] => some ([.b (agOk Big x_x), .p (InL 1000000 (agD (α := Big) x_x).l), .p (trimL (agD (α := Big) x_x).l = (agD (α := Big) x_x).l), .p ((agD (α := Big) x_x).l.length ≤ 100000000), .p ((agD (α := Big) x_x).neg = true → (agD (α := Big) x_x).l.length ≠ 0)], .str (itoa (bif (agD (α := Big) x_x).neg then - valL 1000000 (agD (α := Big) x_x).l else valL 1000000 (agD (α := Big) x_x).l)))
 | _ => none
theorem r1write_vc (x : Big) (hx : InL 1000000 x.l) (ht : trimL x.l = x.l) (hl : x.l.length ≤ 100000000) (h0 : x.neg = true → x.l.length ≠ 0) :
 let q1 := (bif Big.neg x then -valL (1000000 : Int) (Big.l x) else valL (1000000 : Int) (Big.l x)); let q2 := ((6 : Int) * (lZ (Big.l x))); let q3 := (nat_lit 1 = 1 ∧ 0 = 0 ∧ Int.toNat q2 = Int.toNat q2); let q5 := (AV.xl false 1 (lN (Big.l x)) fun i j => aI (gD (Big.l x) i Enc.dflt)); let q4 := (143 = 143 ∧ 2 = 2 ∧ Big.neg x = Big.neg x ∧ avM q5 q5); let q9 := (↑(Int.toNat q2) : Int); bndL [AV.agg 2 (Enc.enc x)] → bsplit ((lZ (Big.l x)) == iZ) (Array.toList (ByteArray.data (ByteArray.mk #[(48 : UInt8)])) = itoa q1)
 (bsplit (DB.db (inK .i64 q2)) (bsplit (DB.db (iZ ≤ (6 : Int) * (lZ (Big.l x)) ∧ (6 : Int) * (lZ (Big.l x)) ≤ (6 : Int) * (lZ (Big.l x)) ∧ (↑1 : Int) * q2 ≤ (140737488355328 : Int))) ((∃ (z : WrS), ((WrJ (Big.l x) (WrS.i z) 0 (WrS.out z) ∧ WrS.i z ≤ lN (Big.l x)) ∧ (nat_lit 0 = 0 ∧ 0 = 0) ∧ q3 ∧ kI ∧ iZ = (↑(WrS.i z) : Int)) ∧ q4 ∧ (5 : TypeId) = 5 ∧ 1 = 1 ∧ lN (WrS.out z) = Int.toNat q2 ∧ ∀ (i j : Nat), i < Int.toNat q2 → j < 1 → avM (zcell (Value.int IntKind.u8 iZ) j) (AV.v (Value.int
 IntKind.u8 (↑(UInt8.toNat (gD (WrS.out z) i (0 : UInt8))) : Int)))) ∧ ∀ (z : WrS), let q6 := (Int.toNat (AV.int (aI (↑(WrS.i z) : Int)))); let q7 := (kI ∧ (↑(WrS.i z) : Int) = (↑(WrS.i z) : Int)); let q8 := (gD (Big.l x) q6 iZ); WrJ (Big.l x) (WrS.i z) 0 (WrS.out z) ∧ WrS.i z ≤ lN (Big.l x) → bsplit (ltB (↑(WrS.i z) : Int) (lZ (Big.l x))) (bsplit (DB.db (iZ ≤ (↑(WrS.i z) : Int) ∧ (↑(WrS.i z) : Int) < (lZ (Big.l x)))) ((∃ (z_1 : WrT), ((WrJ (Big.l x) q6 (WrT.j z_1) (WrT.out z_1) ∧ WrT.j
 z_1 ≤ 6) ∧ (nat_lit 0 = 0 ∧ 0 = 0) ∧ q3 ∧ q7 ∧ (kI ∧ gD (Big.l x) (Int.toNat (↑(WrS.i z) : Int)) Enc.dflt = (↑(Int.toNat q8 / 10 ^ WrT.j z_1) : Int)) ∧ kI ∧ iO = (↑(WrT.j z_1) : Int) + iO) ∧ q4 ∧ 5 = 5 ∧ 1 = 1 ∧ lN (WrT.out z_1) = lN (WrS.out z) ∧ ∀ (i j : Nat), i < lN (WrS.out z) → j < 1 → IntKind.u8 = IntKind.u8 ∧ (↑(UInt8.toNat (gD (WrS.out z) i (0 : UInt8))) : Int) = (↑(UInt8.toNat (gD (WrT.out z_1) i (0 : UInt8))) : Int)) ∧ ∀ (z_1 : WrT), let q10 := (q9 - (6 : Int) * (↑(WrS.i z) : Int) - ((↑(WrT.j
 z_1) : Int) + iO)); let q12 := (↑(Int.toNat q8 / 10 ^ WrT.j z_1) : Int); let q11 := ((48 : Int) + Int.tmod q12 (10 : Int)); WrJ (Big.l x) q6 (WrT.j z_1) (WrT.out z_1) ∧ WrT.j z_1 ≤ 6 → bsplit (leB ((↑(WrT.j z_1) : Int) + iO) (6 : Int)) (bsplit (DB.db (inK .i64 ((6 : Int) * (↑(WrS.i z) : Int)))) (bsplit (DB.db (inK .i64 (q9 - (6 : Int) * (↑(WrS.i z) : Int)))) (bsplit (DB.db (inK .i64 q10)) (bsplit (DB.db (inK .i64 q11)) (bsplit (DB.db (inK IntKind.u8 q11)) (bsplit (DB.db (iZ ≤ q9 - (6 : Int) * (↑(WrS.i z) : Int) - ((↑(WrT.j z_1) : Int) + iO) ∧ q9 - (6 : Int) *
 (↑(WrS.i z) : Int) - ((↑(WrT.j z_1) : Int) + iO) < q9)) (bsplit (DB.db (inK .i64 (Int.tdiv q12 (10 : Int)))) (bsplit (DB.db (inK .i64 ((↑(WrT.j z_1) : Int) + iO + iO))) (∃ (z' : WrT), (((WrJ (Big.l x) q6 (WrT.j z') (WrT.out z') ∧ WrT.j z' ≤ 6) ∧ 6 - WrT.j z' < 6 - WrT.j z_1) ∧ (nat_lit 0 = 0 ∧ 0 = 0) ∧ q3 ∧ q7 ∧ (kI ∧ Int.tdiv q12 (10 : Int) = (↑(Int.toNat q8 / 10 ^ WrT.j z') : Int)) ∧ kI ∧ (↑(WrT.j z_1) : Int) + iO + iO = (↑(WrT.j z') : Int) + iO) ∧ q4 ∧ 5 = 5 ∧ 1 = 1 ∧ lN (WrT.out z') = lN (WrT.out
 z_1) ∧ ∀ (i j : Nat), i < lN (WrT.out z_1) → j < 1 → avM (if i = 0 + Int.toNat q10 ∧ 0 ≤ j ∧ j < 1 then AV.v (Value.int IntKind.u8 q11) else AV.v (Value.int IntKind.u8 (↑(UInt8.toNat (gD (WrT.out z_1) i (0 : UInt8))) : Int))) (AV.v (Value.int IntKind.u8 (↑(UInt8.toNat (gD (WrT.out z') i (0 : UInt8))) : Int)))) False) False) False) False) False) False) False) False) (bsplit (DB.db (inK .i64 ((↑(WrS.i z) : Int) + iO))) (∃ (z' : WrS), (((WrJ (Big.l x) (WrS.i z') 0 (WrS.out z') ∧ WrS.i z' ≤ lN (Big.l x)) ∧ lN (Big.l x) - WrS.i z' < lN (Big.l
 x) - WrS.i z) ∧ (nat_lit 0 = 0 ∧ 0 = 0) ∧ q3 ∧ kI ∧ (↑(WrS.i z) : Int) + iO = (↑(WrS.i z') : Int)) ∧ q4 ∧ 5 = 5 ∧ 1 = 1 ∧ lN (WrS.out z') = lN (WrT.out z_1) ∧ ∀ (i j : Nat), i < lN (WrT.out z_1) → j < 1 → IntKind.u8 = IntKind.u8 ∧ (↑(UInt8.toNat (gD (WrT.out z_1) i (0 : UInt8))) : Int) = (↑(UInt8.toNat (gD (WrS.out z') i (0 : UInt8))) : Int)) False)) False) ((∃ (z_1 : Nat), ((z_1 < 6 * lN (Big.l x) ∧ ∀ (i : Nat), i < z_1 → gD (obBytes (OB.arr (5 : TypeId) 1 (lN (WrS.out z)) fun (i x : Nat) => AV.v
 (Value.int IntKind.u8 (↑(UInt8.toNat (gD (WrS.out z) i (0 : UInt8))) : Int)))) i (0 : UInt8) = (48 : UInt8)) ∧ (nat_lit 0 = 0 ∧ 0 = 0) ∧ nat_lit 1 = 1 ∧ z_1 = 0 ∧ 6 * lN (Big.l x) - z_1 = Int.toNat q2) ∧ q4 ∧ 5 = 5 ∧ 1 = 1 ∧ lN (WrS.out z) = lN (WrS.out z) ∧ ∀ (i j : Nat), let q13 := (↑(UInt8.toNat (gD (WrS.out z) i (0 : UInt8))) : Int); i < lN (WrS.out z) → j < 1 → IntKind.u8 = IntKind.u8 ∧ q13 = q13) ∧ ∀ (z_1 : Nat), let q14 := (↑(6 * lN (Big.l x) - z_1) : Int); let q16 := (∀ (i : Nat), i < 6 * lN (Big.l x) - z_1 → ∃ (k :
 Int), (fun (i x : Nat) => AV.v (Value.int IntKind.u8 (↑(UInt8.toNat (gD (WrS.out z) i (0 : UInt8))) : Int))) (z_1 + i) 0 = AV.v (Value.int IntKind.u8 k)); let q17 := (fun (i : Nat) => u8Of ((fun (i x : Nat) => AV.v (Value.int IntKind.u8 (↑(UInt8.toNat (gD (WrS.out z) i (0 : UInt8))) : Int))) (z_1 + i) 0)); let q18 := (List.range (6 * lN (Big.l x) - z_1)); (z_1 < 6 * lN (Big.l x) ∧ ∀ (i : Nat), i < z_1 → gD (obBytes (OB.arr (5 : TypeId) 1 (lN (WrS.out z)) fun (i x : Nat) => AV.v (Value.int IntKind.u8 (↑(UInt8.toNat (gD (WrS.out z) i (0 :
 UInt8))) : Int)))) i (0 : UInt8) = (48 : UInt8)) → bsplit (DB.db (iZ ≤ iZ ∧ iZ < q14)) (bsplit ((↑(UInt8.toNat (gD (WrS.out z) (z_1 + 0) (0 : UInt8))) : Int) == (48 : Int)) (bsplit (DB.db (iZ ≤ iO ∧ iO ≤ q14)) (∃ (z' : Nat), (((z' < 6 * lN (Big.l x) ∧ ∀ (i : Nat), i < z' → gD (obBytes (OB.arr (5 : TypeId) 1 (lN (WrS.out z)) fun (i x : Nat) => AV.v (Value.int IntKind.u8 (↑(UInt8.toNat (gD (WrS.out z) i (0 : UInt8))) : Int)))) i (0 : UInt8) = (48 : UInt8)) ∧ 6 * lN (Big.l x) - z' < 6 * lN (Big.l x)
 - z_1) ∧ (nat_lit 0 = 0 ∧ 0 = 0) ∧ nat_lit 1 = 1 ∧ z' = z_1 + 1 ∧ 6 * lN (Big.l x) - z' = 6 * lN (Big.l x) - z_1 - 1) ∧ q4 ∧ 5 = 5 ∧ 1 = 1 ∧ lN (WrS.out z) = lN (WrS.out z) ∧ ∀ (i j : Nat), let q15 := (↑(UInt8.toNat (gD (WrS.out z) i (0 : UInt8))) : Int); i < lN (WrS.out z) → j < 1 → IntKind.u8 = IntKind.u8 ∧ q15 = q15) False) (bsplit (Big.neg x) (q16 ∧ bsplit (DB.db (1 + lN (List.map q17 q18) ≤ 9223372036854775807)) (Array.toList (ByteArray.data (ByteArray.mk #[(45 : UInt8)])) ++ List.map q17 q18 = itoa q1) False) (q16 ∧ List.map q17
 q18 = itoa q1))) False)) False) False) := by
 delta kI lZ lN gD iZ iO aI
 dsimp only
 intro hb
 have e0 : (Enc.dflt : Int) = 0 := rfl
 simp only [↓vc_db, ↓vc_gdb, row_one]
 simp only [sS, dS, e0]
 have ev : ((6 : Int) * (x.l.length : Int)).toNat = 6 * x.l.length := by omega
 rw [ev]
 refine ⟨fun hz => ?_, fun hz => ⟨⟨by omega, by omega⟩, ⟨by omega, Int.le_refl _, by omega⟩, ⟨⟨0, List.replicate (6 * x.l.length) 0⟩, ⟨⟨.start _, Nat.zero_le _⟩, rfl⟩, by simp, fun i j _ hj => ?_⟩, fun z ⟨z1, z2⟩ => ⟨fun hlt => ⟨⟨by omega, hlt⟩, ⟨⟨0, z.out⟩, ⟨⟨z1, by simp⟩, ?_, rfl⟩, rfl, fun _ _ _ _ => rfl⟩, fun t ⟨t1, t2⟩ => ⟨fun hj => ?_, fun hj => ?_⟩⟩, fun hge => ?_⟩⟩⟩
 ·have hn : x.neg = false := by
   cases hx : x.neg with
   | false => rfl
   | true => exact absurd (by omega) (h0 hx)
  have he : x.l = [] := List.eq_nil_of_length_eq_zero (by omega)
  rw [hn, he]
  have : itoa ((0 : Nat) : Int) = [48] := by rw [Go.Ar.itoa_nat, decDigits_small (by omega)]; rfl
  exact this.symm
 ·obtain rfl : j = 0 := by omega
  refine avM_of_eq ?_
  rw [List.getD_eq_getElem?_getD, List.getElem?_replicate]
  split <;> rfl
 ·have := hx.get (by omega) z.i
  rw [Nat.pow_zero, Nat.div_one]
  omega
 ·have g1 := hx.get (by omega) z.i
  obtain ⟨X, hX⟩ : ∃ X : Nat, x.l.getD z.i 0 = X := ⟨(x.l.getD z.i 0).toNat, by omega⟩
  have hs := t1.step (by omega) (by omega)
  rw [hX] at g1 hs ⊢
  simp only [Int.toNat_natCast] at hs ⊢
  have hY : X / 10 ^ t.j ≤ X := Nat.div_le_self _ _
  have hY2 : X / 10 ^ (t.j + 1) = X / 10 ^ t.j / 10 := by rw [Nat.pow_succ, Nat.div_div_eq_div_mul]
  generalize X / 10 ^ t.j = Y at *
  have tm : ((Y : Nat) : Int).tmod 10 = ((Y % 10 : Nat) : Int) := by rw [Int.tmod_eq_emod_of_nonneg (by omega)]; omega
  have td : ((Y : Nat) : Int).tdiv 10 = ((Y / 10 : Nat) : Int) := by rw [Int.tdiv_eq_ediv_of_nonneg (by omega)]; omega
  have hm : Y % 10 < 10 := Nat.mod_lt _ (by omega)
  rw [tm, td]
  have tl := t1.len
  have ek : ((6 * x.l.length : Nat) : Int) - 6 * (z.i : Int) - ((t.j : Int) + 1) = ((6 * x.l.length - 6 * z.i - t.j - 1 : Nat) : Int) := by omega
  rw [ek, Int.toNat_natCast]
  exact ⟨⟨by omega, by omega⟩, ⟨by omega, by omega⟩, ⟨by omega, by omega⟩, ⟨by omega, by omega⟩, ⟨by omega, by omega⟩, ⟨by omega, by omega⟩, ⟨by omega, by omega⟩, ⟨by omega, by omega⟩, ⟨t.j + 1, _⟩, ⟨⟨⟨hs, by simp only; omega⟩, by simp only; omega⟩, by simp only [hY2], by simp only; omega⟩, by simp, fun i j _ hj => setB _ _ _ _ (by rw [dgC_toNat hm]; omega) (by omega) i j hj⟩
 ·have ej : t.j = 6 := by omega
  have hw := (ej ▸ t1 : WrJ x.l z.i 6 t.out).next hx (by omega)
  exact ⟨⟨by omega, by omega⟩, ⟨z.i + 1, t.out⟩, ⟨⟨⟨hw, by simp only; omega⟩, by simp only; omega⟩, by simp⟩, rfl, fun _ _ _ _ => rfl⟩
 ·have ei : z.i = x.l.length := by omega
  obtain ⟨w1, w2⟩ := (ei ▸ z1 : WrJ x.l x.l.length 0 z.out).end_
  have hV := pos_y hx ht (by omega)
  have zl := z1.len
  simp only [obB]
  rw [← zl]
  refine ⟨⟨0, ⟨⟨by omega, fun i hi => absurd hi (Nat.not_lt_zero _)⟩, rfl, rfl⟩, fun _ _ _ _ => trivial⟩, fun k ⟨k1, k2⟩ => ⟨⟨Int.le_refl _, by omega⟩, fun h48 => ?_, fun h48 => ?_⟩⟩
  ·have hk : z.out.getD k 0 = 48 := UInt8.toNat_inj.1 (by rw [Nat.add_zero] at h48; have : (48 : UInt8).toNat = 48 := rfl; omega)
   have hall : ∀ i, i < k + 1 → z.out.getD i 0 = 48 := fun i hi => by
    by_cases e : i = k
    ·rw [e]; exact hk
    ·exact k2 i (by omega)
   have hlt : k + 1 < z.out.length := by
    refine Decidable.byContradiction fun hn => ?_
    have := strip_all (out := z.out) (z := k + 1) (by omega) hall
    rw [List.drop_of_length_le (by omega), w2] at this
    simp [decV] at this
    omega
   exact ⟨⟨by omega, by omega⟩, k + 1, ⟨⟨⟨hlt, hall⟩, by omega⟩, rfl, by omega⟩, fun _ _ _ _ => trivial⟩
  ·have hk : z.out.getD k 0 ≠ 48 := fun e => h48 (by rw [Nat.add_zero, e]; rfl)
   have he := strip_end w1 k1 hk ((strip_all (by omega) k2).trans w2)
   rw [mapB, he]
   obtain ⟨n, hn⟩ : ∃ n : Nat, valL 1000000 x.l = n := ⟨(valL 1000000 x.l).toNat, by omega⟩
   rw [hn, Int.toNat_natCast]
   have hlen := congrArg List.length he
   rw [List.length_drop, hn, Int.toNat_natCast] at hlen
   refine bsplit_iff.2 ⟨fun c => ⟨fun i _ => ⟨_, rfl⟩, by omega, ?_⟩, fun c => ⟨fun i _ => ⟨_, rfl⟩, ?_⟩⟩
   ·rw [c]
    exact (Go.Ar.itoa_neg (by omega)).symm
   ·rw [c]
    exact (Go.Ar.itoa_nat n).symm
theorem r1write_C (x : Big) (hx : InL 1000000 x.l) (ht : trimL x.l = x.l) (hl : x.l.length ≤ 100000000) (h0 : x.neg = true → x.l.length ≠ 0) : PureCall Tryz.prog [] 106 [agE x] (.str (itoa (bif x.neg then - valL 1000000 x.l else valL 1000000 x.l))) :=
 pure_of_vc (T := T0) (an := r1write_an x) mixed tb0_sound (Eq.mp (by kernel_rfl) (r1write_vc x hx ht hl h0))
theorem r1write_T : PureT Tryz.prog [] 106 r1write_t := by
 intro xs ps r h hp
 unfold r1write_t at h
 split at h
 ·skip
  rename_i x_x
  cases h
  obtain ⟨q0, q1, q2, q3, q4, -⟩ := allC hp
  exact weaken (ys := [agE (agD (α := Big) x_x)]) ⟨agE_sound q0, trivial⟩ (r1write_C (agD (α := Big) x_x) q1 q2 q3 q4)
 ·cases h
end Go.Te

namespace Go.Te
open Go Go.Sx Go.Proofs Go.Ar
set_option maxRecDepth 100000
set_option maxHeartbeats 4000000
structure AlS where
 i : Nat
 n : Int
def allowed_it (l : List Row) (w d s q : Int) : Ann :=
 .two .auto (.one (.loop Nat (fun σ z => [(0, σ.tm 0), (2, σ.tm 2), (3, σ.tm 3), (4, σ.tm 4), (5, σ.tm 5), (9, σ.tm 9), (10, σ.tm 10), (11, .i z)]) (fun _ z => [(0, .box 3 1 fun _ => .i (findZ l w d s q z))]) 0
  (fun _ z => z ≤ l.length) (fun _ z => l.length - z) .auto))
def allowed_an (l : List Row) (w d s q : Int) : Ann :=
 .two .auto (.two .auto (.two (.two .auto (.one (.range (allowed_it l w d s q) .auto .auto))) .auto))
noncomputable def TB1 : Tb := T0.body Tryz.prog [(111, .auto)]
theorem TB1_sound : TbSound Tryz.prog TB1 := TbSound.body mixed tb0_sound _
def allowed_t : List AV → Option (List Cond × AV)
 | [x_l, .v (.int .i64 w), .v (.int .i64 d), .v (.int .i64 s), .v (.int .i64 q)] => some ([.b (slOk Row x_l)], .i (findR (rowsOf x_l) w d s q))
 | _ => none
theorem allowed_vc (l : List Row) (w : Int) (d : Int) (s : Int) (q : Int) :
 let q1 := (AV.xl false 5 (lN l) fun i j => Enc.enc (gD l i Enc.dflt) j); let q2 := (kI ∧ (lZ l) = (lZ l)); bndL [AV.xl false 5 (lN l) fun i j => Enc.enc (gD l i Enc.dflt) j, aI w, aI d, aI s, aI q] → (∃ (z : Nat), (z ≤ lN l ∧ nat_lit 6 = 6 ∧ (nat_lit 2 = 2 ∧ 0 = 0) ∧ (nat_lit 3 = 3 ∧ 0 = 0) ∧ (nat_lit 4 = 4 ∧ 0 = 0) ∧ (nat_lit 5 = 5 ∧ 0 = 0) ∧ avM q1 q1 ∧ q2 ∧ kI ∧ iZ = (↑z : Int)) ∧ (((((((3 : TypeId) = 3
 ∧ 1 = 1 ∧ kI ∧ iZ = findZ l w d s q z) ∧ 22 = 22 ∧ 1 = 1 ∧ avM q1 q1) ∧ 3 = 3 ∧ 1 = 1 ∧ kI ∧ w = w) ∧ 3 = 3 ∧ 1 = 1 ∧ kI ∧ d = d) ∧ 3 = 3 ∧ 1 = 1 ∧ kI ∧ s = s) ∧ 3 = 3 ∧ 1 = 1 ∧ kI ∧ q = q) ∧ LoopState.ready = LoopState.ready ∧ Non Code = Non Code) ∧ ∀ (z : Nat), let q6 := (gD l (Int.toNat (↑z : Int)) Enc.dflt); let q5 := (Row.w q6); let q4 := (leB q5 w); let q3 := (!bsel true q4 || bsel true q4); let q9 := (Row.d q6); let q8 := (bif leB q5 w then leB q9 d else false); let q7 := (!bsel true q8 || bsel
 true q8); let q12 := (Row.s q6); let q11 := (bif bif leB q5 w then leB q9 d else false then leB s q12 else false); let q10 := (!bsel true q11 || bsel true q11); let q15 := (Row.q q6); let q14 := (bif bif bif leB q5 w then leB q9 d else false then leB s q12 else false then leB q q15 else false); let q13 := (bsel true q14); let q16 := ((!bif bif bif leB q5 w then leB q9 d else false then leB s q12 else false then leB q q15 else false) || bsel true q14); let q17 := (if Row.n q6 > findZ l w d s q z then Row.n q6 else findZ l w d s q z); let q18 := (DB.db (inK .i64 ((↑z : Int) + iO))); let
 q19 := (kI ∧ findZ l w d s q z = findR l w d s q); z ≤ lN l → bsplit (ltB (↑z : Int) (lZ l)) (bsplit (DB.db (iZ ≤ (↑z : Int) ∧ (↑z : Int) < (lZ l))) (bsplit q3 (bsplit q3 (bsplit q3 (bsplit (!leB q5 w || bsel true q4) (bsplit q7 (bsplit q7 (bsplit q7 (bsplit ((!bif leB q5 w then leB q9 d else false) || bsel true q8) (bsplit q10 (bsplit q10 (bsplit q10 (bsplit ((!bif bif leB q5 w then leB q9 d else false then leB s q12 else false) || bsel true q11) (bsplit q13 (bsplit q13 (bsplit q13 (bsplit (!bsel true q14 || true) (bsplit q16
 (bsplit (bif bif bif bif leB q5 w then leB q9 d else false then leB s q12 else false then leB q q15 else false then !Option.isNone (Non Code) else false) (kI ∧ q17 = findR l w d s q) (bsplit q18 (∃ (z' : Nat), ((z' ≤ lN l ∧ lN l - z' < lN l - z) ∧ nat_lit 6 = 6 ∧ (nat_lit 2 = 2 ∧ 0 = 0) ∧ (nat_lit 3 = 3 ∧ 0 = 0) ∧ (nat_lit 4 = 4 ∧ 0 = 0) ∧ (nat_lit 5 = 5 ∧ 0 = 0) ∧ avM q1 q1 ∧ q2 ∧ kI ∧ (↑z : Int) + iO = (↑z' : Int)) ∧ ((((((3 = 3 ∧ 1 = 1 ∧ kI ∧ q17 = findZ l w d s q z') ∧ 22 = 22 ∧ 1 = 1 ∧ avM q1 q1) ∧ 3 = 3 ∧ 1
 = 1 ∧ kI ∧ w = w) ∧ 3 = 3 ∧ 1 = 1 ∧ kI ∧ d = d) ∧ 3 = 3 ∧ 1 = 1 ∧ kI ∧ s = s) ∧ 3 = 3 ∧ 1 = 1 ∧ kI ∧ q = q) ∧ LoopState.ready = LoopState.ready ∧ Non Code = Non Code) False)) False) False) False) False) (bsplit (!bsel true q14 || false) (bsplit q16 (bsplit (bif bif bif bif leB q5 w then leB q9 d else false then leB s q12 else false then leB q q15 else false then !false else false) q19 (bsplit q18 (∃ (z' : Nat), ((z' ≤ lN l ∧ lN l - z' < lN l - z) ∧ nat_lit 6 = 6 ∧ (nat_lit 2 = 2 ∧ 0 = 0) ∧ (nat_lit 3 = 3
 ∧ 0 = 0) ∧ (nat_lit 4 = 4 ∧ 0 = 0) ∧ (nat_lit 5 = 5 ∧ 0 = 0) ∧ avM q1 q1 ∧ q2 ∧ kI ∧ (↑z : Int) + iO = (↑z' : Int)) ∧ ((((((3 = 3 ∧ 1 = 1 ∧ kI ∧ findZ l w d s q z = findZ l w d s q z') ∧ 22 = 22 ∧ 1 = 1 ∧ avM q1 q1) ∧ 3 = 3 ∧ 1 = 1 ∧ kI ∧ w = w) ∧ 3 = 3 ∧ 1 = 1 ∧ kI ∧ d = d) ∧ 3 = 3 ∧ 1 = 1 ∧ kI ∧ s = s) ∧ 3 = 3 ∧ 1 = 1 ∧ kI ∧ q = q) ∧ LoopState.ready = LoopState.ready ∧ Non Code = Non Code) False)) False) False)) False) False) False) False) False) False) False) False) False) False) False)
 False) False) q19 := by
 delta kI lZ lN gD iZ iO aI
 dsimp only
 intro hb
 have e2 : (Enc.dflt : Row) = r0 := rfl
 simp only [sS, agD_row, agOk_row, agD_row', agOk_row', okIn, okIn', deI, deI', okR, okR', deR, deR', deRo, deRo', e2]
 have hb1 : l.length ≤ 9223372036854775807 := hb.1.1
 refine ⟨⟨0, ⟨by omega, rfl⟩, rfl⟩, fun z hz => ⟨fun hlt => ⟨⟨by omega, hlt⟩, ?_⟩, fun hge => ?_⟩⟩
 ·have hs : findZ l w d s q (z + 1) = bif enoB (l.getD z r0) w d s q then (if (l.getD z r0).n > findZ l w d s q z then (l.getD z r0).n else findZ l w d s q z) else findZ l w d s q z := rfl
  have key : (leB (l.getD z r0).w w && leB (l.getD z r0).d d && leB s (l.getD z r0).s && leB q (l.getD z r0).q) = enoB (l.getD z r0) w d s q := rfl
  rw [key]
  cases he : enoB (l.getD z r0) w d s q with
  | true =>
   rw [he] at hs
   simp only [Bool.true_and, vc_tt]
   rw [show (!(Non Code).isNone) = false from rfl, vc_ff]
   exact ⟨⟨by omega, by omega⟩, z + 1, ⟨⟨by omega, by omega⟩, by omega⟩, hs.symm⟩
  | false =>
   rw [he] at hs
   simp only [Bool.false_and, vc_ff, Bool.not_false, Bool.true_or, vc_tt]
   exact ⟨⟨by omega, by omega⟩, z + 1, ⟨⟨by omega, by omega⟩, by omega⟩, hs.symm⟩
 ·rw [show z = l.length by omega]; rfl
theorem allowed_C (l : List Row) (w : Int) (d : Int) (s : Int) (q : Int) : PureCall Tryz.prog [] 58 [slE l, .i w, .i d, .i s, .i q] (.i (findR l w d s q)) :=
 pure_of_vc (T := TB1) (an := allowed_an l w d s q) mixed TB1_sound (Eq.mp (by kernel_rfl) (allowed_vc l w d s q))
theorem allowed_T : PureT Tryz.prog [] 58 allowed_t := by
 intro xs ps r h hp
 unfold allowed_t at h
 split at h
 ·skip
  rename_i x_l w d s q
  cases h
  obtain ⟨q0, -⟩ := allC hp
  exact weaken (ys := [slE (rowsOf x_l), .i w, .i d, .i s, .i q]) ⟨slE_sound q0, avM_refl _, avM_refl _, avM_refl _, avM_refl _, trivial⟩ (allowed_C (rowsOf x_l) w d s q)
 ·cases h
def ask_t : List AV → Option (List Cond × AV)
 | [x_l, .v (.int .i64 w), .v (.int .i64 d), .v (.int .i64 s), .v (.int .i64 q)] => some ([.b (slOk Row x_l)], .i (askE (rowsOf x_l) w d s q))
 | _ => none
theorem ask_vc (l : List Row) (w : Int) (d : Int) (s : Int) (q : Int) :
 bndL [AV.xl false 5 (lN l) fun i j => Enc.enc (gD l i Enc.dflt) j, aI w, aI d, aI s, aI q] → bsplit (slOk Row (AV.xl false 5 (lN l) fun i j => Enc.enc (gD l i Enc.dflt) j)) (bsplit (tabE (rowsOf (AV.xl false 5 (lN l) fun i j => Enc.enc (gD l i Enc.dflt) j)) != iZ) (kI ∧ iO = askE l w d s q) (bsplit (!rangB w d s q) (kI ∧ (2 : Int) = askE l w d s q) (kI ∧ iZ = askE l w d s q))) False := by
 delta kI lN gD iZ iO aI
 intro hb
 have e2 : (Enc.dflt : Row) = r0 := rfl
 simp only [sS, agD_row, agOk_row, agD_row', agOk_row', okIn, okIn', deI, deI', okR, okR', deR, deR', deRo, deRo', e2]
 unfold askE
 refine ⟨fun h => by rw [bne_iff_ne.2 h]; rfl, fun h => ?_⟩
 rw [h]
 cases rangB w d s q <;> rfl
theorem ask_C (l : List Row) (w : Int) (d : Int) (s : Int) (q : Int) : PureCall Tryz.prog [] 55 [slE l, .i w, .i d, .i s, .i q] (.i (askE l w d s q)) :=
 pure_of_vc (T := ((T0.plus 24 check_t).plus 74 ranged_t)) (an := .auto) mixed (TbSound.plus (TbSound.plus tb0_sound check_T) ranged_T) (Eq.mp (by kernel_rfl) (ask_vc l w d s q))
theorem ask_T : PureT Tryz.prog [] 55 ask_t := by
 intro xs ps r h hp
 unfold ask_t at h
 split at h
 ·skip
  rename_i x_l w d s q
  cases h
  obtain ⟨q0, -⟩ := allC hp
  exact weaken (ys := [slE (rowsOf x_l), .i w, .i d, .i s, .i q]) ⟨slE_sound q0, avM_refl _, avM_refl _, avM_refl _, avM_refl _, trivial⟩ (ask_C (rowsOf x_l) w d s q)
 ·cases h
theorem find_vc (l : List Row) (w : Int) (d : Int) (s : Int) (q : Int) :
 let q2 := (AV.xl false 5 (lN l) fun i j => Enc.enc (gD l i Enc.dflt) j); let q1 := (slOk Row q2); let q3 := (rowsOf q2); let q4 := (True ∧ kI ∧ iZ = findV l w d s q); bndL [AV.xl false 5 (lN l) fun i j => Enc.enc (gD l i Enc.dflt) j, aI w, aI d, aI s, aI q] → bsplit q1 (bsplit (askE q3 w d s q != iZ) (j2 ∧ q4 ∧ kI ∧ askE q3 w d s q = findE l w d s q) (bsplit q1 (bsplit (findR q3 w d s q == iZ) (2 =
 lN [AV.junk, AV.junk] ∧ q4 ∧ kI ∧ (25 : Int) = findE l w d s q) (j2 ∧ (True ∧ kI ∧ findR q3 w d s q = findV l w d s q) ∧ kI ∧ iZ = findE l w d s q)) False)) False := by
 delta kI j2 lN gD iZ aI
 dsimp only
 intro hb
 have e2 : (Enc.dflt : Row) = r0 := rfl
 simp only [sS, agD_row, agOk_row, agD_row', agOk_row', okIn, okIn', deI, deI', okR, okR', deR, deR', deRo, deRo', e2]
 refine ⟨fun h => ?_, fun h => ⟨fun h2 => ?_, fun h2 => ?_⟩⟩
 ·have e : findE l w d s q = askE l w d s q := by unfold findE; rw [bne_iff_ne.2 h]; rfl
  exact ⟨rfl, by unfold findV; rw [e, beq_false_of_ne h]; rfl, e.symm⟩
 ·have e : findE l w d s q = 25 := by unfold findE; rw [h, h2]; rfl
  exact ⟨rfl, by unfold findV; rw [e]; rfl, e.symm⟩
 ·have e : findE l w d s q = 0 := by unfold findE; rw [h, beq_false_of_ne h2]; rfl
  exact ⟨rfl, by unfold findV; rw [e]; rfl, e.symm⟩
theorem find_C (l : List Row) (w : Int) (d : Int) (s : Int) (q : Int) : PureCall Tryz.prog [] 16 [slE l, .i w, .i d, .i s, .i q] (.tup 2 (listFn [.i (findV l w d s q), .i (findE l w d s q)])) :=
 pure_of_vc (T := ((T0.plus 55 ask_t).plus 58 allowed_t)) (an := .auto) mixed (TbSound.plus (TbSound.plus tb0_sound ask_T) allowed_T) (Eq.mp (by kernel_rfl) (find_vc l w d s q))
def reno_t : List AV → Option (List Cond × AV)
 | [x_x, .v (.int .i64 w), .v (.int .i64 d), .v (.int .i64 s), .v (.int .i64 q)] => some ([.b (agOk Row x_x)], .b (enoB (agD (α := Row) x_x) w d s q))
 | _ => none
theorem reno_vc (x : Row) (w : Int) (d : Int) (s : Int) (q : Int) :
 let q1 := (!bsel true (leB (Row.w x) w) || bsel true (leB (Row.w x) w)); let q3 := (bif leB (Row.w x) w then leB (Row.d x) d else false); let q2 := (!bsel true q3 || bsel true q3); let q5 := (bif bif leB (Row.w x) w then leB (Row.d x) d else false then leB s (Row.s x) else false); let q4 := (!bsel true q5 || bsel true q5); bndL [AV.agg 5 (Enc.enc x), aI w, aI d, aI s, aI q] → bsplit q1 (bsplit q1 (bsplit q1 (bsplit (!leB (Row.w x) w || bsel true (leB (Row.w x) w)) (bsplit q2 (bsplit q2 (bsplit q2 (bsplit ((!bif leB
 (Row.w x) w then leB (Row.d x) d else false) || bsel true q3) (bsplit q4 (bsplit q4 (bsplit q4 (bsplit ((!bif bif leB (Row.w x) w then leB (Row.d x) d else false then leB s (Row.s x) else false) || bsel true q5) ((bif bif bif leB (Row.w x) w then leB (Row.d x) d else false then leB s (Row.s x) else false then leB q (Row.q x) else false) = enoB x w d s q) False) False) False) False) False) False) False) False) False) False) False) False := by
 delta aI
 dsimp only
 intro hb
 unfold enoB
 simp only [sS, agD_row, agOk_row, agD_row', agOk_row', okIn, okIn', deI, deI', okR, okR', deR, deR', deRo, deRo']
theorem reno_C (x : Row) (w : Int) (d : Int) (s : Int) (q : Int) : PureCall Tryz.prog [] 124 [agE x, .i w, .i d, .i s, .i q] (.b (enoB x w d s q)) :=
 pure_of_vc (T := T0) (an := .auto) mixed tb0_sound (Eq.mp (by kernel_rfl) (reno_vc x w d s q))
theorem reno_T : PureT Tryz.prog [] 124 reno_t := by
 intro xs ps r h hp
 unfold reno_t at h
 split at h
 ·skip
  rename_i x_x w d s q
  cases h
  obtain ⟨q0, -⟩ := allC hp
  exact weaken (ys := [agE (agD (α := Row) x_x), .i w, .i d, .i s, .i q]) ⟨agE_sound q0, avM_refl _, avM_refl _, avM_refl _, avM_refl _, trivial⟩ (reno_C (agD (α := Row) x_x) w d s q)
 ·cases h
def rfind_an (l : List Row) (w d s q : Int) : Ann :=
 .two .auto (.two .auto (.two (.two .auto (.one (.loop Nat (fun σ z => [(0, σ.tm 0), (1, σ.tm 1), (2, σ.tm 2), (3, σ.tm 3), (4, σ.tm 4), (11, .i (findZ l w d s q z)), (12, .i z)]) (fun σ z => []) 0 (fun σ z => z ≤ l.length) (fun σ z => l.length - z) .auto))) .auto))
def rfnd_t : List AV → Option (List Cond × AV)
 | [x_l, .v (.int .i64 w), .v (.int .i64 d), .v (.int .i64 s), .v (.int .i64 q)] => some ([.b (slOk Row x_l)], .i (findR (rowsOf x_l) w d s q))
 | _ => none
theorem rfnd_vc (l : List Row) (w : Int) (d : Int) (s : Int) (q : Int) :
 let q1 := (AV.xl false 5 (lN l) fun i j => Enc.enc (gD l i Enc.dflt) j); bndL [AV.xl false 5 (lN l) fun i j => Enc.enc (gD l i Enc.dflt) j, aI w, aI d, aI s, aI q] → (∃ (z : Nat), (z ≤ lN l ∧ avM q1 q1 ∧ (kI ∧ w = w) ∧ (kI ∧ d = d) ∧ (kI ∧ s = s) ∧ (kI ∧ q = q) ∧ (kI ∧ iZ = findZ l w d s q z) ∧ kI ∧ iZ = (↑z : Int)) ∧ True) ∧ ∀ (z : Nat), let q2 := (DB.db (iZ ≤ (↑z
 : Int) ∧ (↑z : Int) < (lZ l))); let q3 := (gD l (Int.toNat (↑z : Int)) Enc.dflt); let q4 := (DB.db (inK .i64 ((↑z : Int) + iO))); z ≤ lN l → bsplit (ltB (↑z : Int) (lZ l)) (bsplit q2 (bsplit (enoB (agD (AV.agg 5 fun (i : Nat) => Enc.enc q3 (0 + i))) w d s q) (bsplit q2 (bsplit q4 (∃ (z' : Nat), ((z' ≤ lN l ∧ lN l - z' < lN l - z) ∧ avM q1 q1 ∧ (kI ∧ w = w) ∧ (kI ∧ d = d) ∧ (kI ∧ s = s) ∧ (kI ∧ q = q) ∧ (kI ∧ (if Row.n q3 > findZ l
 w d s q z then Row.n q3 else findZ l w d s q z) = findZ l w d s q z') ∧ kI ∧ (↑z : Int) + iO = (↑z' : Int)) ∧ True) False) False) (bsplit q4 (∃ (z' : Nat), ((z' ≤ lN l ∧ lN l - z' < lN l - z) ∧ avM q1 q1 ∧ (kI ∧ w = w) ∧ (kI ∧ d = d) ∧ (kI ∧ s = s) ∧ (kI ∧ q = q) ∧ (kI ∧ findZ l w d s q z = findZ l w d s q z') ∧ kI ∧ (↑z : Int) + iO = (↑z' : Int)) ∧ True) False)) False) (kI ∧ findZ l w d s q z = findR l w d s q) := by
 delta kI lZ lN gD iZ iO aI
 dsimp only
 intro hb
 have e2 : (Enc.dflt : Row) = r0 := rfl
 simp only [sS, agD_row, agOk_row, agD_row', agOk_row', okIn, okIn', deI, deI', okR, okR', deR, deR', deRo, deRo', e2]
 have hb1 : l.length ≤ 9223372036854775807 := hb.1.1
 refine ⟨⟨0, by omega, rfl, rfl⟩, fun z hz => ⟨fun hlt => ⟨⟨by omega, hlt⟩, ?_⟩, fun hge => ?_⟩⟩
 ·have hs : findZ l w d s q (z + 1) = bif enoB (l.getD z r0) w d s q then (if (l.getD z r0).n > findZ l w d s q z then (l.getD z r0).n else findZ l w d s q z) else findZ l w d s q z := rfl
  cases he : enoB (l.getD z r0) w d s q with
  | true =>
   rw [he] at hs
   simp only [vc_tt]
   exact ⟨⟨by omega, hlt⟩, ⟨by omega, by omega⟩, z + 1, ⟨by omega, by omega⟩, hs.symm, by omega⟩
  | false =>
   rw [he] at hs
   simp only [vc_ff]
   exact ⟨⟨by omega, by omega⟩, z + 1, ⟨by omega, by omega⟩, hs.symm, by omega⟩
 ·rw [show z = l.length by omega]; rfl
theorem rfnd_C (l : List Row) (w : Int) (d : Int) (s : Int) (q : Int) : PureCall Tryz.prog [] 80 [slE l, .i w, .i d, .i s, .i q] (.i (findR l w d s q)) :=
 pure_of_vc (T := T0.plus 124 reno_t) (an := rfind_an l w d s q) mixed (TbSound.plus tb0_sound reno_T) (Eq.mp (by kernel_rfl) (rfnd_vc l w d s q))
theorem rfnd_T : PureT Tryz.prog [] 80 rfnd_t := by
 intro xs ps r h hp
 unfold rfnd_t at h
 split at h
 ·skip
  rename_i x_l w d s q
  cases h
  obtain ⟨q0, -⟩ := allC hp
  exact weaken (ys := [slE (rowsOf x_l), .i w, .i d, .i s, .i q]) ⟨slE_sound q0, avM_refl _, avM_refl _, avM_refl _, avM_refl _, trivial⟩ (rfnd_C (rowsOf x_l) w d s q)
 ·cases h
end Go.Te

namespace Go.Proofs
open Go.Shelf
def Tryz.lays219_ren : Go.Shelf.Ren := ⟨fun | 219 => 123 | 217 => 174 | 225 => 181 | 224 => 182 | 267 => 183 | 266 => 218 | 314 => 229 | n => n, fun | 9 => 9 | 3 => 3 | 4 => 4 | 5 => 5 | 46 => 155 | 146 => 243 | 51 => 201 | n => n, fun | 1 => 0 | n => n⟩
theorem Tryz.lays219 : Go.Proofs.Lays.n219 Tryz.prog Tryz.lays219_ren := {
 mixed := by kernel_rfl
 f217 := Tryz.func174.trans (congrArg some (by kernel_rfl))
 f219 := Tryz.func123.trans (congrArg some (by kernel_rfl))
 f224 := Tryz.func182.trans (congrArg some (by kernel_rfl))
 f225 := Tryz.func181.trans (congrArg some (by kernel_rfl))
 f266 := Tryz.func218.trans (congrArg some (by kernel_rfl))
 f267 := Tryz.func183.trans (congrArg some (by kernel_rfl))
 f314 := Tryz.func229.trans (congrArg some (by kernel_rfl))
 t3 := Tryz.underlying3
 a3 := Tryz.isAgg3
 z3 := Tryz.sizeOf3
 v3 := Tryz.zeroValue3
 t4 := Tryz.underlying4
 a4 := Tryz.isAgg4
 z4 := Tryz.sizeOf4
 v4 := Tryz.zeroValue4
 t5 := Tryz.underlying5
 a5 := Tryz.isAgg5
 z5 := Tryz.sizeOf5
 v5 := Tryz.zeroValue5
 t9 := Tryz.underlying9
 a9 := Tryz.isAgg9
 z9 := Tryz.sizeOf9
 v9 := Tryz.zeroValue9
 t46 := Tryz.underlying155
 a46 := Tryz.isAgg155
 z46 := Tryz.sizeOf155
 v46 := Tryz.zeroValue155
 t51 := Tryz.underlying201
 a51 := Tryz.isAgg201
 z51 := Tryz.sizeOf201
 v51 := Tryz.zeroValue201
 t146 := Tryz.underlying243
 a146 := Tryz.isAgg243
 z146 := Tryz.sizeOf243
 v146 := Tryz.zeroValue243
 g1 := by kernel_rfl }
open Go.RowKit Go.Lib in
theorem Tryz.stringslite_Index_one (s : ByteArray) (c : UInt8) (w : World) :
  Calls Tryz.prog 123 #[.string s, .string ⟨#[c]⟩] w fun e w' => e = .returned (.int .i64 (Lib.indexByte s.data.toList c)) ∧ w' = w := Any.stringslite_Index_one Tryz.lays219 s c w
def Tryz.laysM171_ren : Go.Shelf.Ren := ⟨fun | 171 => 71 | 243 => 121 | 246 => 180 | 283 => 225 | 284 => 226 | 285 => 227 | 286 => 228 | 129 => 173 | 317 => 248 | 318 => 249 | 319 => 250 | 320 => 251 | 337 => 270 | 338 => 271 | n => n, fun | 3 => 3 | 9 => 9 | 2 => 2 | 4 => 4 | 171 => 239 | 0 => 0 | 53 => 203 | 37 => 106 | 5 => 5 | 173 => 241 | 212 => 260 | 51 => 201 | 20 => 20 | 213 => 261 | 46 => 155 | 232 => 288 | 233 => 289 | n => n, fun | 17 => 3 | 18 => 6 | 19 => 7 | n => n⟩
theorem Tryz.laysM171 : Go.Proofs.LaysM.n171 Tryz.prog Tryz.laysM171_ren := {
 mixed := by kernel_rfl
 f129 := Tryz.func173.trans (congrArg some (by kernel_rfl))
 f171 := Tryz.func71.trans (congrArg some (by kernel_rfl))
 f243 := Tryz.func121.trans (congrArg some (by kernel_rfl))
 f246 := Tryz.func180.trans (congrArg some (by kernel_rfl))
 f283 := Tryz.func225.trans (congrArg some (by kernel_rfl))
 f284 := Tryz.func226.trans (congrArg some (by kernel_rfl))
 f285 := Tryz.func227.trans (congrArg some (by kernel_rfl))
 f286 := Tryz.func228.trans (congrArg some (by kernel_rfl))
 f317 := Tryz.func248.trans (congrArg some (by kernel_rfl))
 f318 := Tryz.func249.trans (congrArg some (by kernel_rfl))
 f319 := Tryz.func250.trans (congrArg some (by kernel_rfl))
 f320 := Tryz.func251.trans (congrArg some (by kernel_rfl))
 f337 := Tryz.func270.trans (congrArg some (by kernel_rfl))
 f338 := Tryz.func271.trans (congrArg some (by kernel_rfl))
 t0 := Tryz.underlying0
 a0 := Tryz.isAgg0
 z0 := Tryz.sizeOf0
 v0 := Tryz.zeroValue0
 t2 := Tryz.underlying2
 a2 := Tryz.isAgg2
 z2 := Tryz.sizeOf2
 v2 := Tryz.zeroValue2
 t3 := Tryz.underlying3
 a3 := Tryz.isAgg3
 z3 := Tryz.sizeOf3
 v3 := Tryz.zeroValue3
 t4 := Tryz.underlying4
 a4 := Tryz.isAgg4
 z4 := Tryz.sizeOf4
 v4 := Tryz.zeroValue4
 t5 := Tryz.underlying5
 a5 := Tryz.isAgg5
 z5 := Tryz.sizeOf5
 v5 := Tryz.zeroValue5
 t9 := Tryz.underlying9
 a9 := Tryz.isAgg9
 z9 := Tryz.sizeOf9
 v9 := Tryz.zeroValue9
 t20 := Tryz.underlying20
 a20 := Tryz.isAgg20
 z20 := Tryz.sizeOf20
 v20 := Tryz.zeroValue20
 t37 := Tryz.underlying106
 a37 := Tryz.isAgg106
 z37 := Tryz.sizeOf106
 v37 := Tryz.zeroValue106
 t46 := Tryz.underlying155
 a46 := Tryz.isAgg155
 z46 := Tryz.sizeOf155
 v46 := Tryz.zeroValue155
 t51 := Tryz.underlying201
 a51 := Tryz.isAgg201
 z51 := Tryz.sizeOf201
 v51 := Tryz.zeroValue201
 t53 := Tryz.underlying203
 a53 := Tryz.isAgg203
 z53 := Tryz.sizeOf203
 v53 := Tryz.zeroValue203
 t171 := Tryz.underlying239
 a171 := Tryz.isAgg239
 z171 := Tryz.sizeOf239
 v171 := Tryz.zeroValue239
 t173 := Tryz.underlying241
 a173 := Tryz.isAgg241
 z173 := Tryz.sizeOf241
 v173 := Tryz.zeroValue241
 t212 := Tryz.underlying260
 a212 := Tryz.isAgg260
 z212 := Tryz.sizeOf260
 v212 := Tryz.zeroValue260
 t213 := Tryz.underlying261
 a213 := Tryz.isAgg261
 z213 := Tryz.sizeOf261
 t232 := Tryz.underlying288
 a232 := Tryz.isAgg288
 z232 := Tryz.sizeOf288
 v232 := Tryz.zeroValue288
 t233 := Tryz.underlying289
 a233 := Tryz.isAgg289
 z233 := Tryz.sizeOf289
 v233 := Tryz.zeroValue289
 g17 := by kernel_rfl
 g18 := by kernel_rfl
 g19 := by kernel_rfl
 i0 := by kernel_rfl
 i2 := by kernel_rfl
 i3 := by kernel_rfl
 i4 := by kernel_rfl
 i5 := by kernel_rfl
 i9 := by kernel_rfl
 i20 := by kernel_rfl
 i37 := by kernel_rfl
 i46 := by kernel_rfl
 i51 := by kernel_rfl
 i53 := by kernel_rfl
 i171 := by kernel_rfl
 i173 := by kernel_rfl
 i212 := by kernel_rfl
 i232 := by kernel_rfl
 i233 := by kernel_rfl
 m17 := by kernel_rfl
 m18 := by kernel_rfl
 m19 := by kernel_rfl }
open Go.RowKit Go.Sort Go.Lib in
theorem Tryz.strconv_Itoa (n : Int) (h0 : -9223372036854775808 ≤ n) (h1 : n ≤ 9223372036854775807) (w : World) (htab : Lib.TabIs Tryz.prog w "internal/strconv.uint64pow10" .u64 Lib.pow10Tab) :
  Calls Tryz.prog 71 #[.int .i64 n] w fun e w' => e = .returned (.string ⟨(Lib.itoa n).toArray⟩) ∧ ∃ k os, w' = grow (w.drewN k) os := Any.strconv_Itoa Tryz.laysM171 n h0 h1 w htab
end Go.Proofs

namespace Go.Te
open Go Go.Sx Go.Proofs Go.Ar Go.RowKit
set_option maxRecDepth 100000
set_option maxHeartbeats 4000000
def isT : AV → Bool
 | .v (.bool true) => true
 | _ => false
theorem isT_avM (x : AV) (h : isT x = true) : avM x (.b true) := by
 unfold isT at h
 split at h
 ·exact avM_refl _
 ·cases h
def idx1_t : List AV → Option (List Cond × AV)
 | [.str s, .str [c]] => some ([], .i (Lib.indexByte s c))
 | _ => none
theorem idx1_T : PureT Tryz.prog [] 123 idx1_t := by
 intro xs ps r h hp
 unfold idx1_t at h
 split at h
 ·rename_i s c
  cases h
  refine ⟨enters_of Tryz.func123 (by kernel_rfl) rfl, fun w S vals hS hg hr => ?_⟩
  match vals, hr with
  | [v, v2], ⟨hv, hv2, _⟩ =>
  obtain rfl := rel_str hv
  obtain rfl := rel_str hv2
  refine (Tryz.stringslite_Index_one ⟨s.toArray⟩ c w).mono ?_
  rintro e w' ⟨rfl, rfl⟩
  exact ⟨⟨Below.refl _ _, Nat.le_refl _⟩, _, rfl, .v _⟩
 ·cases h
noncomputable def TC1 : Tb := T0.plus 123 idx1_t
theorem TC1_sound : TbSound Tryz.prog TC1 := TbSound.plus tb0_sound idx1_T
noncomputable def DC1 : Tb := Tb.deepX Tryz.prog TC1 [] 12
theorem DC1_sound : TbSound Tryz.prog DC1 := TbSound.deepX mixed TC1_sound [] 12
def isI0 : AV → Bool
 | .v (.int .i64 0) => true
 | _ => false
theorem PureCall.mono {P : Program} {G : List (Nat × Obj)} {f : FuncId} {xs : List AV} {r : AV} (h : PureCall P [] f xs r) : PureCall P G f xs r :=
 ⟨h.1, fun w S vals hS _ hr => h.2 w S vals hS (fun b o hbo => by cases hbo) hr⟩
theorem FreshCall.mono {P : Program} {G : List (Nat × Obj)} {f : FuncId} {xs : List AV} {t : TypeId} {sz len : Nat} {els : Nat → Nat → AV} (h : FreshCall P [] f xs t sz len els) : FreshCall P G f xs t sz len els :=
 ⟨h.1, fun w S vals hS _ hr => h.2 w S vals hS (fun b o hbo => by cases hbo) hr⟩
theorem PureT.mono {P : Program} {G : List (Nat × Obj)} {f : FuncId} {t : List AV → Option (List Cond × AV)} (h : PureT P [] f t) : PureT P G f t := fun xs ps r e hp => PureCall.mono (h xs ps r e hp)
theorem FreshT.mono {P : Program} {G : List (Nat × Obj)} {f : FuncId} {t : List AV → Option (List Cond × TypeId × Nat × Nat × (Nat → Nat → AV))} (h : FreshT P [] f t) : FreshT P G f t := fun xs ps ty sz len els e hp => FreshCall.mono (h xs ps ty sz len els e hp)
def TabIn (G : List (Nat × Obj)) : Prop := ∃ g t fr, Tryz.prog.globalNamed "internal/strconv.uint64pow10" = some g ∧ (g, Obj.cells (Lib.pow10Tab.map fun z => Value.int .u64 z).toArray t fr) ∈ G
def itoa_t : List AV → Option (List Cond × AV)
 | [.v (.int .i64 n)] => some ([.p (inK .i64 n)], .str (Lib.itoa n))
 | _ => none
theorem itoa_T {G : List (Nat × Obj)} (hG : TabIn G) : PureT Tryz.prog G 71 itoa_t := by
 intro xs ps r h hp
 unfold itoa_t at h
 split at h
 ·rename_i n
  cases h
  have hn : inK .i64 n := hp _ List.mem_cons_self
  simp only [inK] at hn
  refine ⟨enters_of Tryz.func71 (by kernel_rfl) rfl, fun w S vals hS hg hr => ?_⟩
  match vals, hr with
  | [v], ⟨hv, _⟩ =>
  obtain rfl := rel_v hv
  obtain ⟨g, t, fr, hname, hmem⟩ := hG
  have htab : Lib.TabIs Tryz.prog w "internal/strconv.uint64pow10" .u64 Lib.pow10Tab := by
   unfold Lib.TabIs World.var?
   rw [hname]
   simp only [Option.bind_some, (hg _ _ hmem).2]
  refine (Tryz.strconv_Itoa n hn.1 hn.2 w htab).mono ?_
  rintro e w' ⟨rfl, k, os, rfl⟩
  exact ⟨⟨⟨rfl, rfl, rfl, by simp [Go.Sort.grow, World.drewN], fun b hb => by simp [Go.Sort.grow, World.drewN, Array.getElem?_append, hb]⟩, by simp [Go.Sort.grow, World.drewN]⟩, _, rfl, .str _⟩
 ·cases h
noncomputable def TIt (G : List (Nat × Obj)) : Tb := (tb0 G).plus 71 itoa_t
theorem TIt_sound {G : List (Nat × Obj)} (hG : TabIn G) : TbSound Tryz.prog (TIt G) := TbSound.plus tb0_sound (itoa_T hG)
theorem of1_vc (G : List (Nat × Obj)) (n : Int) (hn : inK .i64 n) :
 bndL [aI n, aI iO] → (iN ≤ n ∧ n ≤ iX) ∧ j2 ∧ (True ∧ Lib.itoa n = Lib.itoa n) ∧ kI ∧ iZ = iZ := by
 delta kI j2 iZ iO iX iN aI
 intro _
 exact ⟨hn, rfl, ⟨trivial, rfl⟩, rfl, rfl⟩
theorem of1_C {G : List (Nat × Obj)} (hG : TabIn G) (n : Int) (hn : inK .i64 n) : PureCall Tryz.prog G 89 [.i n, .i 1] (.tup 2 (listFn [.str (Lib.itoa n), .i 0])) :=
 pure_of_vc (T := TIt G) (an := .auto) mixed (TIt_sound hG) (Eq.mp (by kernel_rfl) (of1_vc G n hn))
def isBI (t : Bool) : AV → Bool
 | .tup 2 vs => (match vs 0 with | .v (.bool a) => a == t | _ => false) && (match vs 1 with | .v (.int .i64 0) => true | _ => false)
 | _ => false
theorem isBI_avM {t : Bool} (x : AV) (h : isBI t x = true) : avM x (.tup 2 (listFn [.b t, .i 0])) := by
 unfold isBI at h
 split at h
 ·rename_i vs
  simp only [Bool.and_eq_true] at h
  refine ⟨rfl, allB_of fun i hi => ?_⟩
  match i, hi with
  | 0, _ =>
   show avM (vs 0) (.b t)
   have h1 := h.1
   split at h1
   ·rename_i a ha; rw [ha, eq_of_beq h1]; exact avM_refl _
   ·cases h1
  | 1, _ =>
   show avM (vs 1) (.i 0)
   have h1 := h.2
   split at h1
   ·rename_i ha; rw [ha]; exact avM_refl _
   ·cases h1
 ·cases h
noncomputable def TF (G : List (Nat × Obj)) (n : Int) (nl : List UInt8) : Tb := ((tb0 G).plus 123 idx1_t).plus 89 (inst [.i n, .i 1] (.tup 2 (listFn [.str nl, .i 0])))
noncomputable def DF (G : List (Nat × Obj)) (n : Int) (nl : List UInt8) : Tb := Tb.deepX Tryz.prog (TF G n nl) [] 12
theorem DF_sound {G : List (Nat × Obj)} (hG : TabIn G) {n : Int} {nl : List UInt8} (hn : inK .i64 n) (h : Lib.itoa n = nl) : TbSound Tryz.prog (DF G n nl) :=
 TbSound.deepX mixed (TbSound.plus (TbSound.plus tb0_sound (PureT.mono idx1_T)) (inst_T (h ▸ of1_C hG n hn))) [] 12
theorem fits1_vc (G : List (Nat × Obj)) :
 Wk [aI (3600 : Int), aI iO] [aI (3600 : Int), aI iO] ∧ True := by
 delta iO aI
 exact ⟨Wk.refl _, trivial⟩
theorem fits2_vc (G : List (Nat × Obj)) :
 Wk [aI (3600 : Int), aI iO] [aI (3600 : Int), aI iO] ∧ True := by
 delta iO aI
 exact ⟨Wk.refl _, trivial⟩
theorem fits3_vc (G : List (Nat × Obj)) :
 Wk [aI (2500 : Int), aI iO] [aI (2500 : Int), aI iO] ∧ True := by
 delta iO aI
 exact ⟨Wk.refl _, trivial⟩
theorem fits4_vc (G : List (Nat × Obj)) :
 Wk [aI (2800 : Int), aI iO] [aI (2800 : Int), aI iO] ∧ True := by
 delta iO aI
 exact ⟨Wk.refl _, trivial⟩
theorem it_ (l : List UInt8) (h : digS l = true) : Lib.itoa (decV l : Int) = l := by rw [itoa_nat, decDigits_decV h]
abbrev sA : List UInt8 := [50, 54, 48, 48]
abbrev sB : List UInt8 := [55, 50, 48, 49, 47, 50]
def fitEx_t : List AV → Option (List Cond × AV)
 | [.v (.int .i64 n), .str s] =>
  bif n == 2500 then some ([.b (s == sA)], .tup 2 (listFn [.b false, .i 0]))
  else bif n == 2800 then some ([.b (s == sA)], .tup 2 (listFn [.b true, .i 0]))
  else bif n == 3600 then some ([.b (s == sA || s == sB)], .tup 2 (listFn [.b (s == sA), .i 0])) else none
 | _ => none
theorem fitEx_T {G : List (Nat × Obj)} (hG : TabIn G) : PureT Tryz.prog G 57 fitEx_t := by
 intro xs ps r h hp
 unfold fitEx_t at h
 split at h
 ·rename_i n s
  cases h1 : n == 2500 with
  | true =>
   rw [h1] at h
   cases h
   obtain rfl := eq_of_beq h1
   have q : (s == sA) = true := hp _ List.mem_cons_self
   obtain rfl := eq_of_beq q
   exact pure_of_vcC mixed (DF_sound hG (by simp only [inK]; decide) (it_ [50, 53, 48, 48] (by decide))) isBI_avM (Eq.mp (by kernel_rfl) (fits3_vc G) : vcFnC Tryz.prog (DF G 2500 [50, 53, 48, 48]) 57 .auto [.i 2500, .str [50, 54, 48, 48]] (isBI false))
  | false =>
  rw [h1] at h
  cases h2 : n == 2800 with
  | true =>
   rw [h2] at h
   cases h
   obtain rfl := eq_of_beq h2
   have q : (s == sA) = true := hp _ List.mem_cons_self
   obtain rfl := eq_of_beq q
   exact pure_of_vcC mixed (DF_sound hG (by simp only [inK]; decide) (it_ [50, 56, 48, 48] (by decide))) isBI_avM (Eq.mp (by kernel_rfl) (fits4_vc G) : vcFnC Tryz.prog (DF G 2800 [50, 56, 48, 48]) 57 .auto [.i 2800, .str [50, 54, 48, 48]] (isBI true))
  | false =>
  rw [h2] at h
  cases h3 : n == 3600 with
  | true =>
   rw [h3] at h
   cases h
   obtain rfl := eq_of_beq h3
   have q : (s == sA || s == sB) = true := hp _ List.mem_cons_self
   rw [Bool.or_eq_true] at q
   rcases q with q | q
   ·obtain rfl := eq_of_beq q
    exact pure_of_vcC mixed (DF_sound hG (by simp only [inK]; decide) (it_ [51, 54, 48, 48] (by decide))) isBI_avM (Eq.mp (by kernel_rfl) (fits2_vc G) : vcFnC Tryz.prog (DF G 3600 [51, 54, 48, 48]) 57 .auto [.i 3600, .str [50, 54, 48, 48]] (isBI true))
   ·obtain rfl := eq_of_beq q
    exact pure_of_vcC mixed (DF_sound hG (by simp only [inK]; decide) (it_ [51, 54, 48, 48] (by decide))) isBI_avM (Eq.mp (by kernel_rfl) (fits1_vc G) : vcFnC Tryz.prog (DF G 3600 [51, 54, 48, 48]) 57 .auto [.i 3600, .str [55, 50, 48, 49, 47, 50]] (isBI false))
  | false => rw [h3] at h; cases h
 ·cases h
theorem cs1_vc  :
 True := by
 trivial
theorem cs2_vc  :
 True := by
 trivial
theorem isI0_avM (x : AV) (h : isI0 x = true) : avM x (.i 0) := by
 unfold isI0 at h
 split at h
 ·exact avM_refl _
 ·cases h
def csEx_t : List AV → Option (List Cond × AV)
 | [.str s] => some ([.b (s == sA || s == sB)], .i 0)
 | _ => none
theorem csEx_T : PureT Tryz.prog [] 56 csEx_t := by
 intro xs ps r h hp
 unfold csEx_t at h
 split at h
 ·rename_i s
  cases h
  have q : (s == sA || s == sB) = true := hp _ List.mem_cons_self
  rw [Bool.or_eq_true] at q
  rcases q with q | q
  ·obtain rfl := eq_of_beq q
   exact pure_of_vcC mixed DC1_sound isI0_avM (Eq.mp (by kernel_rfl) cs1_vc : vcFnC Tryz.prog DC1 56 .auto [.str [50, 54, 48, 48]] isI0)
  ·obtain rfl := eq_of_beq q
   exact pure_of_vcC mixed DC1_sound isI0_avM (Eq.mp (by kernel_rfl) cs2_vc : vcFnC Tryz.prog DC1 56 .auto [.str [55, 50, 48, 49, 47, 50]] isI0)
 ·cases h
def bySize_t : List AV → Option (List Cond × AV)
 | [x_a, x_b] => some ([.b (agOk Sz x_a), .b (agOk Sz x_b), .p (okS (agD (α := Sz) x_a) = true), .p (okS (agD (α := Sz) x_b) = true)], .i (ordS (agD (α := Sz) x_a) (agD (α := Sz) x_b)))
 | _ => none
theorem bySize_vc (a : Sz) (b : Sz) (h1 : okS a = true) (h2 : okS b = true) :
 bndL [AV.agg 3 (Enc.enc a), AV.agg 3 (Enc.enc b)] → bsplit (DB.db (inK .i64 (Sz.w a * Sz.d a))) (bsplit (DB.db (inK .i64 (Sz.w b * Sz.d b))) (bsplit (DB.db (inK .i64 (Sz.w a * Sz.d a - Sz.w b * Sz.d b))) (bsplit (DB.db (inK .i64 (Sz.w a - Sz.w b))) (kI ∧ orF (fun (i : Nat) => AV.int (Sx.rowAt [fun (x : Nat) => aI (Sz.w a * Sz.d a - Sz.w b * Sz.d b), fun (x : Nat) => aI (Sz.w a - Sz.w b)] i 0)) 2 0 = ordS a b) False) False) False) False := by
 delta kI aI
 intro _
 have g1 := okS_iff h1
 have g2 := okS_iff h2
 simp only [sS, true_and]
 refine ⟨⟨by omega, by omega⟩, ⟨by omega, by omega⟩, ⟨by omega, by omega⟩, ⟨by omega, by omega⟩, ?_⟩
 show (bif a.w * a.d - b.w * b.d == 0 then (bif a.w - b.w == 0 then (0 : Int) else a.w - b.w) else a.w * a.d - b.w * b.d) = ordS a b
 unfold ordS
 generalize a.w * a.d - b.w * b.d = x1
 generalize a.w - b.w = x2
 have e : ∀ (x A B : Int), (bif x == 0 then A else B) = bif x != 0 then B else A := fun x A B => by
  show _ = bif !(x == 0) then B else A
  cases x == 0 <;> rfl
 have e4 : (bif x2 == 0 then (0 : Int) else x2) = x2 := by
  cases h : x2 == 0 with
  | true => exact (eq_of_beq h).symm
  | false => rfl
 rw [e4, e]
theorem bySize_C (a : Sz) (b : Sz) (h1 : okS a = true) (h2 : okS b = true) : PureCall Tryz.prog [] 60 [agE a, agE b] (.i (ordS a b)) :=
 pure_of_vc (T := TA4) (an := .auto) mixed TA4_sound (Eq.mp (by kernel_rfl) (bySize_vc a b h1 h2))
theorem bySize_T : PureT Tryz.prog [] 60 bySize_t := by
 intro xs ps r h hp
 unfold bySize_t at h
 split at h
 ·skip
  rename_i x_a x_b
  cases h
  obtain ⟨q0, q1, q2, q3, -⟩ := allC hp
  exact weaken (ys := [agE (agD (α := Sz) x_a), agE (agD (α := Sz) x_b)]) ⟨agE_sound q0, agE_sound q1, trivial⟩ (bySize_C (agD (α := Sz) x_a) (agD (α := Sz) x_b) q2 q3)
 ·cases h
def l0 : List Row := [⟨50, 100, 400, 1000, 2500⟩, ⟨50, 150, 400, 1000, 3600⟩, ⟨75, 100, 600, 1500, 2800⟩]
noncomputable def TL (G : List (Nat × Obj)) : Tb := ((((tb0 G).plus 55 (inst [slE l0, .i 1, .i 1, .i 400, .i 1000] (.i 0))).plus 56 csEx_t).plus 57 fitEx_t).plus 60 bySize_t
noncomputable def DL (G : List (Nat × Obj)) : Tb := Tb.deepX Tryz.prog (TL G) [] 12
def isSz (x : AV) : Bool :=
 match x with
 | .tup 2 vs => agOk Sz (vs 0) && decide (agD (vs 0) = (⟨0, 50, 150⟩ : Sz)) && (match vs 1 with | .v (.int .i64 0) => true | _ => false)
 | _ => false
theorem isSz_avM (x : AV) (h : isSz x = true) : avM x (.tup 2 (listFn [agE (⟨0, 50, 150⟩ : Sz), .i 0])) := by
 unfold isSz at h
 split at h
 ·rename_i vs
  simp only [Bool.and_eq_true, decide_eq_true_eq] at h
  refine ⟨rfl, allB_of fun i hi => ?_⟩
  match i, hi with
  | 0, _ =>
   show avM (vs 0) (agE (⟨0, 50, 150⟩ : Sz))
   exact h.1.2 ▸ agE_sound h.1.1
  | 1, _ =>
   show avM (vs 1) (.i 0)
   have h1 := h.2
   split at h1
   ·rename_i ha; rw [ha]; exact avM_refl _
   ·cases h1
 ·cases h
theorem TL_sound {G : List (Nat × Obj)} (hG : TabIn G) : TbSound Tryz.prog (TL G) :=
 TbSound.plus (TbSound.plus (TbSound.plus (TbSound.plus tb0_sound (inst_T (PureCall.mono (ask_C l0 1 1 400 1000)))) (PureT.mono csEx_T)) (fitEx_T hG)) (PureT.mono bySize_T)
theorem least_vc (G : List (Nat × Obj)) :
 let q1 := (Array.getD (Value.cells (Value.agg #[Value.int .i64 iZ, Value.int .i64 iZ, Value.int .i64 iZ])) 0 undef); Wk [AV.xl false 5 3 fun i j => Enc.enc (gD l0 i Enc.dflt) j, aI iO, aI iO, aI (400 : Int), aI (1000 : Int)] [AV.xl false 5 3 fun i j => Enc.enc (gD l0 i Enc.dflt) j, aI iO, aI iO, aI (400 : Int), aI (1000 : Int)] ∧ (bsel true (ltB iZ (iZ + iO)) =
 true → okS (agD (AV.agg 3 fun (x : Nat) => if 1 < 1 then Sx.rowAt [listFn [AV.v q1, aI (Row.w (gD l0 1 Enc.dflt)), aI (Row.d (gD l0 1 Enc.dflt))]] 1 (0 + x) else Sx.rowAt [listFn [AV.v q1, aI (Row.w (gD l0 2 Enc.dflt)), aI (Row.d (gD l0 2 Enc.dflt))]] 0 (0 + x))) = true) ∧ (bsel true (ltB iZ (iZ + iO)) = true → okS (agD (AV.agg 3 fun (x : Nat) => if 0 < 1 then Sx.rowAt [listFn [AV.v q1, aI (Row.w (gD l0 1 Enc.dflt)), aI (Row.d
 (gD l0 1 Enc.dflt))]] 0 (0 + x) else Sx.rowAt [listFn [AV.v q1, aI (Row.w (gD l0 2 Enc.dflt)), aI (Row.d (gD l0 2 Enc.dflt))]] 0 (0 + x))) = true) ∧ True := by
 delta gD iZ iO aI
 dsimp only
 exact ⟨Wk.refl _, fun _ => rfl, fun _ => rfl, trivial⟩
theorem least_C {G : List (Nat × Obj)} (hG : TabIn G) : PureCall Tryz.prog G 17 [slE l0, .i 400, .i 1000, .str sA] (.tup 2 (listFn [agE (⟨0, 50, 150⟩ : Sz), .i 0])) :=
 pure_of_vcC mixed (TbSound.deepX mixed (TL_sound hG) [] 12) isSz_avM (Eq.mp (by kernel_rfl) (least_vc G) : vcFnC Tryz.prog (DL G) 17 .auto [slE l0, .i 400, .i 1000, .str sA] isSz)
noncomputable def TAl (G : List (Nat × Obj)) : Tb := ((((tb0 G).plus 55 (inst [slE l0, .i 75, .i 150, .i 400, .i 1000] (.i 0))).plus 56 csEx_t).plus 57 fitEx_t).plus 58 (inst [slE l0, .i 75, .i 150, .i 400, .i 1000] (.i 3600))
theorem TAl_sound {G : List (Nat × Obj)} (hG : TabIn G) : TbSound Tryz.prog (TAl G) :=
 TbSound.plus (TbSound.plus (TbSound.plus (TbSound.plus tb0_sound (inst_T (PureCall.mono (ask_C l0 75 150 400 1000)))) (PureT.mono csEx_T)) (fitEx_T hG)) (inst_T (PureCall.mono (allowed_C l0 75 150 400 1000)))
theorem allows_vc (G : List (Nat × Obj)) :
 Wk [AV.xl false 5 3 fun i j => Enc.enc (gD l0 i Enc.dflt) j, aI (75 : Int), aI (150 : Int), aI (400 : Int), aI (1000 : Int)] [AV.xl false 5 3 fun i j => Enc.enc (gD l0 i Enc.dflt) j, aI (75 : Int), aI (150 : Int), aI (400 : Int), aI (1000 : Int)] ∧ Wk [AV.xl false 5 3 fun i j => Enc.enc (gD l0 i Enc.dflt) j, aI (75 : Int), aI (150 : Int), aI (400 : Int), AV.v
 (Value.int .i64 (1000 : Int))] [AV.xl false 5 3 fun i j => Enc.enc (gD l0 i Enc.dflt) j, aI (75 : Int), aI (150 : Int), aI (400 : Int), aI (1000 : Int)] ∧ True := by
 delta gD aI
 exact ⟨Wk.refl _, Wk.refl _, trivial⟩
theorem allowsX_C {G : List (Nat × Obj)} (hG : TabIn G) : PureCall Tryz.prog G 15 [slE l0, .i 75, .i 150, .i 400, .i 1000, .str sB] (.tup 2 (listFn [.b false, .i 0])) :=
 pure_of_vcC mixed (TAl_sound hG) isBI_avM (Eq.mp (by kernel_rfl) (allows_vc G) : vcFnC Tryz.prog (TAl G) 15 .auto [slE l0, .i 75, .i 150, .i 400, .i 1000, .str sB] (isBI false))
def isL (x : AV) : Bool := slOk Row x && decide (rowsOf x = l0)
theorem isL_avM {x : AV} (h : isL x = true) : avM x (slE l0) := by
 simp only [isL, Bool.and_eq_true, decide_eq_true_eq] at h
 exact h.2 ▸ slE_sound h.1
def exF_t : List AV → Option (List Cond × AV)
 | [x, .v (.int .i64 w), .v (.int .i64 d), .v (.int .i64 s), .v (.int .i64 q)] => some ([.b (isL x)], .tup 2 (listFn [.i (findV l0 w d s q), .i (findE l0 w d s q)]))
 | _ => none
theorem exF_T : PureT Tryz.prog [] 16 exF_t := by
 intro xs ps r h hp
 unfold exF_t at h
 split at h
 ·cases h
  exact weaken (ys := [_, _, _, _, _]) ⟨isL_avM (hp _ List.mem_cons_self), avM_refl _, avM_refl _, avM_refl _, avM_refl _, trivial⟩ (find_C l0 _ _ _ _)
 ·cases h
def exL_t : List AV → Option (List Cond × AV)
 | [x, .v (.int .i64 s), .v (.int .i64 q), .str a] => some ([.b (isL x), .b (s == 400), .b (q == 1000), .b (a == sA)], .tup 2 (listFn [agE (⟨0, 50, 150⟩ : Sz), .i 0]))
 | _ => none
theorem exL_T {G : List (Nat × Obj)} (hG : TabIn G) : PureT Tryz.prog G 17 exL_t := by
 intro xs ps r h hp
 unfold exL_t at h
 split at h
 ·rename_i x s q a
  cases h
  have h1 : s = 400 := eq_of_beq (hp _ (List.mem_cons_of_mem _ List.mem_cons_self))
  have h2 : q = 1000 := eq_of_beq (hp _ (List.mem_cons_of_mem _ (List.mem_cons_of_mem _ List.mem_cons_self)))
  have h3 : (a == sA) = true := hp _ (List.mem_cons_of_mem _ (List.mem_cons_of_mem _ (List.mem_cons_of_mem _ List.mem_cons_self)))
  obtain rfl := eq_of_beq h3
  subst h1 h2
  exact weaken (ys := [_, _, _, _]) ⟨isL_avM (hp _ List.mem_cons_self), avM_refl _, avM_refl _, avM_refl _, trivial⟩ (least_C hG)
 ·cases h
def exA_t : List AV → Option (List Cond × AV)
 | [x, .v (.int .i64 w), .v (.int .i64 d), .v (.int .i64 s), .v (.int .i64 q), .str a] => some ([.b (isL x), .b (w == 75), .b (d == 150), .b (s == 400), .b (q == 1000), .b (a == sB)], .tup 2 (listFn [.b false, .i 0]))
 | _ => none
theorem exA_T {G : List (Nat × Obj)} (hG : TabIn G) : PureT Tryz.prog G 15 exA_t := by
 intro xs ps r h hp
 unfold exA_t at h
 split at h
 ·rename_i x w d s q a
  cases h
  have k1 := List.mem_cons_of_mem (.b (isL x)) (List.mem_cons_self (a := Cond.b (w == 75)) (l := [.b (d == 150), .b (s == 400), .b (q == 1000), .b (a == sB)]))
  have h1 : w = 75 := eq_of_beq (hp _ k1)
  have h2 : d = 150 := eq_of_beq (hp (.b (d == 150)) (by simp))
  have h3 : s = 400 := eq_of_beq (hp (.b (s == 400)) (by simp))
  have h4 : q = 1000 := eq_of_beq (hp (.b (q == 1000)) (by simp))
  have h5 : (a == sB) = true := hp (.b (a == sB)) (by simp)
  obtain rfl := eq_of_beq h5
  subst h1 h2 h3 h4
  exact weaken (ys := [_, _, _, _, _, _]) ⟨isL_avM (hp _ List.mem_cons_self), avM_refl _, avM_refl _, avM_refl _, avM_refl _, avM_refl _, trivial⟩ (allowsX_C hG)
 ·cases h
noncomputable def TAw (G : List (Nat × Obj)) : Tb := (((tb0 G).plus 16 exF_t).plus 17 exL_t).plus 15 exA_t
theorem TAw_sound {G : List (Nat × Obj)} (hG : TabIn G) : TbSound Tryz.prog (TAw G) :=
 TbSound.plus (TbSound.plus (TbSound.plus tb0_sound (PureT.mono exF_T)) (exL_T hG)) (exA_T hG)
theorem awake_vc (G : List (Nat × Obj)) :
 True := by
 trivial
theorem awake_C {G : List (Nat × Obj)} (hG : TabIn G) : PureCall Tryz.prog G 13 [] (.b true) :=
 pure_of_vcC mixed (TAw_sound hG) isT_avM (Eq.mp (by kernel_rfl) (awake_vc G) : vcFnC Tryz.prog (TAw G) 13 .auto [] isT)
end Go.Te

namespace Go.Te
open Go Go.Sx Go.Proofs Go.Ar Go.Lib
set_option maxRecDepth 100000
set_option maxHeartbeats 4000000
def gcdN (a b : Str) : Nat := Nat.gcd (valI a).natAbs (valI b).natAbs
instance : LawEnc Big := ⟨fun c => by cases c; simp [Enc.enc, Enc.dec, listFn, slD_slE, AV.bool], fun c => by cases c; simp [Enc.enc, Enc.ok, listFn, slOk_slE, isBool]⟩
theorem agD_big (f : Bool) (l : List Int) : agD (AV.agg 2 (listFn [AV.v (Value.bool f), AV.xl false 1 l.length fun i j => AV.v (Value.int IntKind.i64 (l.getD i 0))])) = (⟨f, l⟩ : Big) := agD_agE (⟨f, l⟩ : Big)
theorem agOk_big (f : Bool) (l : List Int) : agOk Big (AV.agg 2 (listFn [AV.v (Value.bool f), AV.xl false 1 l.length fun i j => AV.v (Value.int IntKind.i64 (l.getD i 0))])) = true := agOk_agE (⟨f, l⟩ : Big)
theorem nat_abs_if (x : Int) : (if -x > x then -x else x) = (x.natAbs : Int) := by split <;> omega
structure GcS where
 x : Int
 y : Int
structure GcL where
 x : Nat
 y : Nat
def r1gcd_an (a b : Str) : Ann :=
 .two .auto (.two .auto (.two (.two .auto (.two .auto (.two (.two (.one (.loop GcS (fun σ z => [(7, .i z.x), (8, .i z.y)]) (fun σ z => []) 0 (fun σ z => Nat.gcd z.x.natAbs z.y.natAbs = gcdN a b ∧ z.x.natAbs ≤ 100000000000000000 ∧ z.y.natAbs ≤ 100000000000000000) (fun σ z => z.y.natAbs) .auto)) .auto) .auto))) (.two .auto (.two (.one (.loop GcL (fun σ z => [(10, slE (limbs 1000000 z.x)), (11, slE (limbs 1000000 z.y))]) (fun σ z => []) 0 (fun σ z => Nat.gcd z.x z.y = gcdN a b ∧ (limbs 1000000 z.x).length ≤ 100000000 ∧ (limbs 1000000 z.y).length ≤ 100000000) (fun σ z => z.y) .auto)) .auto))))
noncomputable def TGc (G : List (Nat × Obj)) : Tb := (((((TIt G).plus 102 r1both_t).plus 103 r1two_t).plus 104 r1read_t).plus 105 r1div_t).plus 106 r1write_t
theorem TGc_sound {G : List (Nat × Obj)} (hG : TabIn G) : TbSound Tryz.prog (TGc G) :=
 TbSound.plus (TbSound.plus (TbSound.plus (TbSound.plus (TbSound.plus (TIt_sound hG) (PureT.mono r1both_T)) (PureT.mono r1two_T)) (PureT.mono r1read_T)) (PureT.mono r1div_T)) (PureT.mono r1write_T)
theorem natV {a : Str} (h : intB a = true) : (valI a).natAbs < 10 ^ a.length := by
 by_cases hm : a.getD 0 0 = 45
 ·have h0 : 0 < a.length := by
   match a, h with
   | [], h => cases h
   | c :: r, _ => simp
  obtain ⟨_, hm1, _, hm4⟩ := int_minus h0 hm
  rw [hm4]
  rw [h] at hm1
  have hd : digS (a.drop 1) = true := by
   cases hx : digS (a.drop 1) with
   | true => rfl
   | false => rw [hx] at hm1; cases hm1
  have := decV_lt (l := a.drop 1) (List.all_eq_true.2 (digS_iff.1 hd).2.1)
  have h3 : 10 ^ (a.drop 1).length ≤ 10 ^ a.length := Nat.pow_le_pow_right (by omega) (by simp)
  omega
 ·obtain ⟨hp1, _, hp3⟩ := int_plain (a := a) fun e => hm e.2
  rw [hp3]
  have := decV_lt (l := a) (List.all_eq_true.2 (digS_iff.1 (hp1.symm.trans h)).2.1)
  omega
theorem lenV {a : Str} (h : intB a = true) (hl : a.length ≤ 100000000) : (limbs 1000000 (valI a).natAbs).length ≤ 100000000 := by
 have h1 := natV h
 refine Nat.le_trans (limbs_len_le (b := 1000000) (k := a.length) (by omega) ?_) hl
 have h2 : 10 ^ a.length ≤ 1000000 ^ a.length := Nat.pow_le_pow_left (by omega) _
 exact_mod_cast Nat.lt_of_lt_of_le h1 h2
theorem b17 {s : Str} (hs : intB s = true) (h : leB (s.length : Int) 17 = true) : (valI s).natAbs ≤ 100000000000000000 := by
 have h1 := natV hs
 have h2 : 10 ^ s.length ≤ 10 ^ 17 := Nat.pow_le_pow_right (by omega) (by have := (leB_iff _ _).1 h; omega)
 omega
theorem r1gcd_vc (G : List (Nat × Obj)) (a b : Str) (hla : a.length ≤ 100000000) (hlb : b.length ≤ 100000000) :
 bndL [AV.str a, AV.str b] → lN a ≤ 4294967280 ∧ lN b ≤ 4294967280 ∧ bsplit (bothE a b != iZ) (j2 ∧ (True ∧ Array.toList (ByteArray.data (ByteArray.mk #[])) = bif bothE a b != iZ then [] else itoa (↑(gcdN a b) : Int)) ∧ kI ∧ bothE a b = bothE a b) (intB a = true ∧ lN a ≤ 4294967280 ∧ intB b = true ∧ lN b ≤ 4294967280 ∧ bsplit (leB (lZ a) (17 : Int) && leB (lZ b) (17 : Int)) ((∃ (z : GcS), ((Nat.gcd (Int.natAbs (GcS.x z)) (Int.natAbs (GcS.y z)) = gcdN a b ∧
 Int.natAbs (GcS.x z) ≤ 100000000000000000 ∧ Int.natAbs (GcS.y z) ≤ 100000000000000000) ∧ (kI ∧ (bif leB (lZ a) (17 : Int) then valI a else iZ) = GcS.x z) ∧ kI ∧ (bif leB (lZ a) (17 : Int) && leB (lZ b) (17 : Int) then valI b else iZ) = GcS.y z) ∧ True) ∧ ∀ (z : GcS), let q1 := (if -GcS.x z > GcS.x z then -GcS.x z else GcS.x z); Nat.gcd (Int.natAbs (GcS.x z)) (Int.natAbs (GcS.y z)) = gcdN a b ∧ Int.natAbs (GcS.x z) ≤ 100000000000000000 ∧ Int.natAbs (GcS.y z) ≤ 100000000000000000 → bsplit (GcS.y z
 != iZ) (bsplit (DB.db (GcS.y z ≠ iZ)) (∃ (z' : GcS), (((Nat.gcd (Int.natAbs (GcS.x z')) (Int.natAbs (GcS.y z')) = gcdN a b ∧ Int.natAbs (GcS.x z') ≤ 100000000000000000 ∧ Int.natAbs (GcS.y z') ≤ 100000000000000000) ∧ Int.natAbs (GcS.y z') < Int.natAbs (GcS.y z)) ∧ (kI ∧ GcS.y z = GcS.x z') ∧ kI ∧ Int.tmod (GcS.x z) (GcS.y z) = GcS.y z') ∧ True) False) (bsplit (DB.db (inK .i64 (-GcS.x z))) (((iN ≤ if -GcS.x z > GcS.x z then -GcS.x z else GcS.x z) ∧ q1 ≤ iX) ∧ j2 ∧ (True
 ∧ itoa q1 = bif bothE a b != iZ then [] else itoa (↑(gcdN a b) : Int)) ∧ kI ∧ iZ = bothE a b) False)) (intB a = true ∧ lN a ≤ 4294967280 ∧ intB b = true ∧ lN b ≤ 4294967280 ∧ (∃ (z : GcL), ((Nat.gcd (GcL.x z) (GcL.y z) = gcdN a b ∧ lN (limbs 1000000 (GcL.x z)) ≤ 100000000 ∧ lN (limbs 1000000 (GcL.y z)) ≤ 100000000) ∧ avM (AV.xl false 1 (lN (limbs 1000000 (Int.natAbs (valI a)))) fun i j => aI (gD (limbs 1000000 (Int.natAbs (valI a))) i Enc.dflt)) (AV.xl false 1 (lN (limbs 1000000 (GcL.x
 z))) fun i j => aI (gD (limbs 1000000 (GcL.x z)) i Enc.dflt)) ∧ (false = true → false = true) ∧ 1 = 1 ∧ lN (limbs 1000000 (GcL.y z)) = lN (limbs 1000000 (Int.natAbs (valI b))) ∧ ∀ (i j : Nat), i < lN (limbs 1000000 (Int.natAbs (valI b))) → j < 1 → kI ∧ gD (limbs 1000000 (Int.natAbs (valI b))) i Enc.dflt = gD (limbs 1000000 (GcL.y z)) i Enc.dflt) ∧ True) ∧ ∀ (z : GcL), let q2 := (AV.xl false 1 (lN (limbs 1000000 (GcL.x z))) fun i j => aI (gD (limbs 1000000 (GcL.x z)) i
 Enc.dflt)); let q3 := (AV.xl false 1 (lN (limbs 1000000 (GcL.y z))) fun i j => aI (gD (limbs 1000000 (GcL.y z)) i Enc.dflt)); let q4 := (intsOf q2); let q5 := (intsOf q3); let q6 := (limbs 1000000 (Int.toNat (valL (1000000 : Int) q4) % Int.toNat (valL (1000000 : Int) q5))); let q7 := (AV.agg 2 (listFn [AV.v (Value.bool false), AV.xl false 1 (lN (limbs 1000000 (GcL.x z))) fun i j => aI (gD (limbs 1000000 (GcL.x z)) i Enc.dflt)])); let q9 := (agD q7); let q8 := (Big.l q9); Nat.gcd (GcL.x z) (GcL.y z) = gcdN a b ∧ List.length
 (limbs 1000000 (GcL.x z)) ≤ 100000000 ∧ lN (limbs 1000000 (GcL.y z)) ≤ 100000000 → bsplit (ltB iZ (lZ (limbs 1000000 (GcL.y z)))) (bsplit (slOk Int q2) (bsplit (slOk Int q3) ((∀ (x : Int), List.Mem x q4 → iZ ≤ x ∧ x < (1000000 : Int)) ∧ (∀ (x : Int), List.Mem x q5 → iZ ≤ x ∧ x < (1000000 : Int)) ∧ trimL q5 = intsOf q3 ∧ lN q5 ≠ 0 ∧ lN q4 ≤ 100000000 ∧ lN q5 ≤ 100000000 ∧ ∃ (z' : GcL), (((Nat.gcd (GcL.x z') (GcL.y z') = gcdN a b ∧ lN (limbs 1000000 (GcL.x z')) ≤ 100000000 ∧ lN (limbs 1000000 (GcL.y z'))
 ≤ 100000000) ∧ GcL.y z' < GcL.y z) ∧ avM q3 (AV.xl false 1 (lN (limbs 1000000 (GcL.x z'))) fun i j => aI (gD (limbs 1000000 (GcL.x z')) i Enc.dflt)) ∧ (false = true → false = true) ∧ 1 = 1 ∧ lN (limbs 1000000 (GcL.y z')) = lN q6 ∧ ∀ (i j : Nat), i < lN q6 → j < 1 → kI ∧ gD q6 i Enc.dflt = gD (limbs 1000000 (GcL.y z')) i Enc.dflt) ∧ True) False) False) (bsplit (agOk Big q7) ((∀ (x : Int), List.Mem x q8 → iZ ≤ x ∧ x < (1000000 : Int)) ∧ trimL q8 = Big.l q9 ∧ lN q8 ≤ 100000000 ∧ (Big.neg q9
 = true → lN q8 ≠ 0) ∧ j2 ∧ (True ∧ itoa (bif Big.neg q9 then -valL (1000000 : Int) q8 else valL (1000000 : Int) q8) = bif bothE a b != iZ then [] else itoa (↑(gcdN a b) : Int)) ∧ kI ∧ iZ = bothE a b) False))) := by
 delta kI j2 lZ lN gD iZ iX iN aI
 dsimp only
 intro hb
 have e0 : (Enc.dflt : Int) = 0 := rfl
 simp only [↓vc_db, ↓vc_gdb, row_one]
 simp only [sS, dS, e0]
 refine ⟨by omega, by omega, fun hE => ⟨rfl, by rw [bne_iff_ne.2 hE]; rfl⟩, fun hE => ?_⟩
 obtain ⟨hA, hB⟩ := bothE_zero hE
 have ia : intB a = true := (intE_zero.1 hA).1
 have ib : intB b = true := (intE_zero.1 hB).1
 have la := lenV ia hla
 have lb := lenV ib hlb
 simp only [hE, bne_self_eq_false, cond_false, agD_big, agOk_big, vc_tt, nat_abs_if]
 refine ⟨ia, by omega, ib, by omega, ?_⟩
 refine bsplit_iff.2 ⟨fun c => ?_, fun c => ⟨ia, by omega, ib, by omega, ?_⟩⟩
 ·rw [Bool.and_eq_true] at c
  rw [c.1, c.2]
  simp only [cond_true, Bool.and_self]
  refine ⟨⟨⟨valI a, valI b⟩, ⟨rfl, b17 ia c.1, b17 ib c.2⟩, rfl, rfl⟩, fun z ⟨z1, z2, z3⟩ => ⟨fun hy => ⟨hy, ⟨z.y, z.x.tmod z.y⟩, ⟨⟨?_, z3, ?_⟩, ?_⟩, rfl, rfl⟩, fun hy => ?_⟩⟩
  ·rw [Int.natAbs_tmod, ← gcd_step (y := z.y.natAbs) (by omega), z1]
  ·rw [Int.natAbs_tmod]
   have : z.x.natAbs % z.y.natAbs ≤ z.x.natAbs := Nat.mod_le _ _
   omega
  ·rw [Int.natAbs_tmod]
   exact Nat.mod_lt _ (by omega)
  ·rw [hy, Int.natAbs_zero, Nat.gcd_zero_right] at z1
   rw [z1] at z2 ⊢
   exact ⟨⟨by omega, by omega⟩, ⟨by omega, by omega⟩, rfl, rfl, trivial⟩
 ·refine ⟨⟨⟨(valI a).natAbs, (valI b).natAbs⟩, ⟨rfl, la, lb⟩, avM_refl _, fun h => h, rfl, fun _ _ _ _ => rfl⟩, fun z ⟨z1, z2, z3⟩ => ⟨fun hy => ?_, fun hy => ?_⟩⟩
  ·have hy0 : z.y ≠ 0 := fun e => by rw [e, limbs_zero] at hy; exact absurd hy (by decide)
   simp only [vL, Int.toNat_natCast]
   have hm : z.x % z.y < z.y := Nat.mod_lt _ (by omega)
   have hlen := limbs_len_mono (b := 1000000) (m := z.x % z.y) (n := z.y) (by omega) (by omega)
   exact ⟨inLm _, inLm _, trim_limbs (b := 1000000) (by omega) _, by omega, z2, z3, ⟨z.y, z.x % z.y⟩, ⟨⟨by rw [← gcd_step hy0]; exact z1, z3, by simp only; omega⟩, hm⟩, avM_refl _, fun h => h, rfl, fun _ _ _ _ => rfl⟩
  ·have hy0 := limbs_nil (b := 1000000) (n := z.y) (by omega) (by omega)
   rw [hy0, Nat.gcd_zero_right] at z1
   simp only [vL]
   rw [z1] at z2 ⊢
   exact ⟨inLm _, trim_limbs (b := 1000000) (by omega) _, z2, fun h => (by cases h), rfl, rfl, trivial⟩
def gcdA (a b : Str) : AV := .tup 2 (listFn [.str (bif bothE a b != 0 then [] else itoa (gcdN a b : Int)), .i (bothE a b)])
def r1gcd_t : List AV → Option (List Cond × AV)
 | [.str a, .str b] => some ([.p (a.length ≤ 100000000), .p (b.length ≤ 100000000)], gcdA a b)
 | _ => none
theorem r1gcd_C {G : List (Nat × Obj)} (hG : TabIn G) (a b : Str) (hla : a.length ≤ 100000000) (hlb : b.length ≤ 100000000) : PureCall Tryz.prog G 49 [.str a, .str b] (gcdA a b) :=
 pure_of_vc (T := TGc G) (an := r1gcd_an a b) mixed (TGc_sound hG) (Eq.mp (by kernel_rfl) (r1gcd_vc G a b hla hlb))
theorem r1gcd_T {G : List (Nat × Obj)} (hG : TabIn G) : PureT Tryz.prog G 49 r1gcd_t := by
 intro xs ps r h hp
 unfold r1gcd_t at h
 split at h
 ·rename_i a b
  cases h
  exact r1gcd_C hG a b (hp _ List.mem_cons_self) (hp _ (List.mem_cons_of_mem _ List.mem_cons_self))
 ·cases h
end Go.Te

namespace Go.Proofs
open Go.Shelf
def Tryz.lays160_ren : Go.Shelf.Ren := ⟨fun | 160 => 238 | 232 => 258 | 231 => 257 | 227 => 259 | 234 => 261 | 233 => 260 | 236 => 263 | 235 => 262 | 228 => 272 | 271 => 274 | 151 => 273 | 197 => 244 | 120 => 279 | 152 => 278 | 260 => 267 | 137 => 116 | 119 => 281 | 224 => 182 | 225 => 181 | 217 => 174 | 266 => 218 | n => n, fun | 9 => 9 | 4 => 4 | 3 => 3 | 5 => 5 | 117 => 268 | 116 => 267 | 0 => 0 | 124 => 271 | 21 => 21 | 105 => 252 | 46 => 155 | 119 => 284 | 139 => 287 | 138 => 286 | n => n, fun | 3 => 4 | 4 => 5 | n => n⟩
theorem Tryz.lays160 : Go.Proofs.Lays.n160 Tryz.prog Tryz.lays160_ren := {
 mixed := by kernel_rfl
 f119 := Tryz.func281.trans (congrArg some (by kernel_rfl))
 f120 := Tryz.func279.trans (congrArg some (by kernel_rfl))
 f137 := Tryz.func116.trans (congrArg some (by kernel_rfl))
 f151 := Tryz.func273.trans (congrArg some (by kernel_rfl))
 f152 := Tryz.func278.trans (congrArg some (by kernel_rfl))
 f160 := Tryz.func238.trans (congrArg some (by kernel_rfl))
 f197 := Tryz.func244.trans (congrArg some (by kernel_rfl))
 f217 := Tryz.func174.trans (congrArg some (by kernel_rfl))
 f224 := Tryz.func182.trans (congrArg some (by kernel_rfl))
 f225 := Tryz.func181.trans (congrArg some (by kernel_rfl))
 f227 := Tryz.func259.trans (congrArg some (by kernel_rfl))
 f228 := Tryz.func272.trans (congrArg some (by kernel_rfl))
 f231 := Tryz.func257.trans (congrArg some (by kernel_rfl))
 f232 := Tryz.func258.trans (congrArg some (by kernel_rfl))
 f233 := Tryz.func260.trans (congrArg some (by kernel_rfl))
 f234 := Tryz.func261.trans (congrArg some (by kernel_rfl))
 f235 := Tryz.func262.trans (congrArg some (by kernel_rfl))
 f236 := Tryz.func263.trans (congrArg some (by kernel_rfl))
 f260 := Tryz.func267.trans (congrArg some (by kernel_rfl))
 f266 := Tryz.func218.trans (congrArg some (by kernel_rfl))
 f271 := Tryz.func274.trans (congrArg some (by kernel_rfl))
 t0 := Tryz.underlying0
 a0 := Tryz.isAgg0
 z0 := Tryz.sizeOf0
 v0 := Tryz.zeroValue0
 t3 := Tryz.underlying3
 a3 := Tryz.isAgg3
 z3 := Tryz.sizeOf3
 v3 := Tryz.zeroValue3
 t4 := Tryz.underlying4
 a4 := Tryz.isAgg4
 z4 := Tryz.sizeOf4
 v4 := Tryz.zeroValue4
 t5 := Tryz.underlying5
 a5 := Tryz.isAgg5
 z5 := Tryz.sizeOf5
 v5 := Tryz.zeroValue5
 t9 := Tryz.underlying9
 a9 := Tryz.isAgg9
 z9 := Tryz.sizeOf9
 v9 := Tryz.zeroValue9
 t21 := Tryz.underlying21
 a21 := Tryz.isAgg21
 z21 := Tryz.sizeOf21
 v21 := Tryz.zeroValue21
 t46 := Tryz.underlying155
 a46 := Tryz.isAgg155
 z46 := Tryz.sizeOf155
 v46 := Tryz.zeroValue155
 t105 := Tryz.underlying252
 a105 := Tryz.isAgg252
 z105 := Tryz.sizeOf252
 v105 := Tryz.zeroValue252
 t116 := Tryz.underlying267
 a116 := Tryz.isAgg267
 z116 := Tryz.sizeOf267
 t117 := Tryz.underlying268
 a117 := Tryz.isAgg268
 z117 := Tryz.sizeOf268
 v117 := Tryz.zeroValue268
 t119 := Tryz.underlying284
 a119 := Tryz.isAgg284
 z119 := Tryz.sizeOf284
 t124 := Tryz.underlying271
 a124 := Tryz.isAgg271
 z124 := Tryz.sizeOf271
 v124 := Tryz.zeroValue271
 t138 := Tryz.underlying286
 a138 := Tryz.isAgg286
 z138 := Tryz.sizeOf286
 v138 := Tryz.zeroValue286
 t139 := Tryz.underlying287
 a139 := Tryz.isAgg287
 z139 := Tryz.sizeOf287
 v139 := Tryz.zeroValue287
 g3 := by kernel_rfl
 g4 := by kernel_rfl }
def Tryz.lays172_ren : Go.Shelf.Ren := ⟨fun | 172 => 119 | 244 => 177 | 245 => 178 | 247 => 220 | 279 => 221 | 280 => 222 | 281 => 223 | 282 => 224 | 287 => 245 | 316 => 246 | 171 => 71 | 205 => 247 | 321 => 268 | 322 => 269 | 243 => 121 | 246 => 180 | 283 => 225 | 284 => 226 | 285 => 227 | 286 => 228 | 129 => 173 | 317 => 248 | 318 => 249 | 319 => 250 | 320 => 251 | 337 => 270 | 338 => 271 | n => n, fun | 9 => 9 | 3 => 3 | 75 => 110 | 76 => 112 | 4 => 4 | 5 => 5 | 167 => 233 | 37 => 106 | 0 => 0 | 85 => 234 | 2 => 2 | 168 => 236 | 53 => 203 | 175 => 254 | 46 => 155 | 210 => 257 | 127 => 161 | 145 => 278 | 143 => 276 | 21 => 21 | 171 => 239 | 173 => 241 | 212 => 260 | 51 => 201 | 20 => 20 | 213 => 261 | 232 => 288 | 233 => 289 | 80 => 116 | n => n, fun | 15 => 1 | 16 => 2 | 17 => 3 | 18 => 6 | 19 => 7 | n => n⟩
theorem Tryz.lays172 : Go.Proofs.Lays.n172 Tryz.prog Tryz.lays172_ren := {
 mixed := by kernel_rfl
 f129 := Tryz.func173.trans (congrArg some (by kernel_rfl))
 f171 := Tryz.func71.trans (congrArg some (by kernel_rfl))
 f172 := Tryz.func119.trans (congrArg some (by kernel_rfl))
 f205 := Tryz.func247.trans (congrArg some (by kernel_rfl))
 f243 := Tryz.func121.trans (congrArg some (by kernel_rfl))
 f244 := Tryz.func177.trans (congrArg some (by kernel_rfl))
 f245 := Tryz.func178.trans (congrArg some (by kernel_rfl))
 f246 := Tryz.func180.trans (congrArg some (by kernel_rfl))
 f247 := Tryz.func220.trans (congrArg some (by kernel_rfl))
 f279 := Tryz.func221.trans (congrArg some (by kernel_rfl))
 f280 := Tryz.func222.trans (congrArg some (by kernel_rfl))
 f281 := Tryz.func223.trans (congrArg some (by kernel_rfl))
 f282 := Tryz.func224.trans (congrArg some (by kernel_rfl))
 f283 := Tryz.func225.trans (congrArg some (by kernel_rfl))
 f284 := Tryz.func226.trans (congrArg some (by kernel_rfl))
 f285 := Tryz.func227.trans (congrArg some (by kernel_rfl))
 f286 := Tryz.func228.trans (congrArg some (by kernel_rfl))
 f287 := Tryz.func245.trans (congrArg some (by kernel_rfl))
 f316 := Tryz.func246.trans (congrArg some (by kernel_rfl))
 f317 := Tryz.func248.trans (congrArg some (by kernel_rfl))
 f318 := Tryz.func249.trans (congrArg some (by kernel_rfl))
 f319 := Tryz.func250.trans (congrArg some (by kernel_rfl))
 f320 := Tryz.func251.trans (congrArg some (by kernel_rfl))
 f321 := Tryz.func268.trans (congrArg some (by kernel_rfl))
 f322 := Tryz.func269.trans (congrArg some (by kernel_rfl))
 f337 := Tryz.func270.trans (congrArg some (by kernel_rfl))
 f338 := Tryz.func271.trans (congrArg some (by kernel_rfl))
 t0 := Tryz.underlying0
 a0 := Tryz.isAgg0
 z0 := Tryz.sizeOf0
 v0 := Tryz.zeroValue0
 t2 := Tryz.underlying2
 a2 := Tryz.isAgg2
 z2 := Tryz.sizeOf2
 v2 := Tryz.zeroValue2
 t3 := Tryz.underlying3
 a3 := Tryz.isAgg3
 z3 := Tryz.sizeOf3
 v3 := Tryz.zeroValue3
 t4 := Tryz.underlying4
 a4 := Tryz.isAgg4
 z4 := Tryz.sizeOf4
 v4 := Tryz.zeroValue4
 t5 := Tryz.underlying5
 a5 := Tryz.isAgg5
 z5 := Tryz.sizeOf5
 v5 := Tryz.zeroValue5
 t9 := Tryz.underlying9
 a9 := Tryz.isAgg9
 z9 := Tryz.sizeOf9
 v9 := Tryz.zeroValue9
 t20 := Tryz.underlying20
 a20 := Tryz.isAgg20
 z20 := Tryz.sizeOf20
 v20 := Tryz.zeroValue20
 t21 := Tryz.underlying21
 a21 := Tryz.isAgg21
 z21 := Tryz.sizeOf21
 v21 := Tryz.zeroValue21
 t37 := Tryz.underlying106
 a37 := Tryz.isAgg106
 z37 := Tryz.sizeOf106
 v37 := Tryz.zeroValue106
 t46 := Tryz.underlying155
 a46 := Tryz.isAgg155
 z46 := Tryz.sizeOf155
 v46 := Tryz.zeroValue155
 t51 := Tryz.underlying201
 a51 := Tryz.isAgg201
 z51 := Tryz.sizeOf201
 v51 := Tryz.zeroValue201
 t53 := Tryz.underlying203
 a53 := Tryz.isAgg203
 z53 := Tryz.sizeOf203
 v53 := Tryz.zeroValue203
 t75 := Tryz.underlying110
 a75 := Tryz.isAgg110
 z75 := Tryz.sizeOf110
 v75 := Tryz.zeroValue110
 t76 := Tryz.underlying112
 a76 := Tryz.isAgg112
 z76 := Tryz.sizeOf112
 v76 := Tryz.zeroValue112
 t85 := Tryz.underlying234
 a85 := Tryz.isAgg234
 z85 := Tryz.sizeOf234
 v85 := Tryz.zeroValue234
 t127 := Tryz.underlying161
 a127 := Tryz.isAgg161
 z127 := Tryz.sizeOf161
 v127 := Tryz.zeroValue161
 t143 := Tryz.underlying276
 a143 := Tryz.isAgg276
 z143 := Tryz.sizeOf276
 v143 := Tryz.zeroValue276
 t145 := Tryz.underlying278
 a145 := Tryz.isAgg278
 z145 := Tryz.sizeOf278
 v145 := Tryz.zeroValue278
 t167 := Tryz.underlying233
 a167 := Tryz.isAgg233
 z167 := Tryz.sizeOf233
 v167 := Tryz.zeroValue233
 t168 := Tryz.underlying236
 a168 := Tryz.isAgg236
 z168 := Tryz.sizeOf236
 v168 := Tryz.zeroValue236
 t171 := Tryz.underlying239
 a171 := Tryz.isAgg239
 z171 := Tryz.sizeOf239
 v171 := Tryz.zeroValue239
 t173 := Tryz.underlying241
 a173 := Tryz.isAgg241
 z173 := Tryz.sizeOf241
 v173 := Tryz.zeroValue241
 t175 := Tryz.underlying254
 a175 := Tryz.isAgg254
 z175 := Tryz.sizeOf254
 v175 := Tryz.zeroValue254
 t210 := Tryz.underlying257
 a210 := Tryz.isAgg257
 z210 := Tryz.sizeOf257
 v210 := Tryz.zeroValue257
 t212 := Tryz.underlying260
 a212 := Tryz.isAgg260
 z212 := Tryz.sizeOf260
 v212 := Tryz.zeroValue260
 t213 := Tryz.underlying261
 a213 := Tryz.isAgg261
 z213 := Tryz.sizeOf261
 t232 := Tryz.underlying288
 a232 := Tryz.isAgg288
 z232 := Tryz.sizeOf288
 v232 := Tryz.zeroValue288
 t233 := Tryz.underlying289
 a233 := Tryz.isAgg289
 z233 := Tryz.sizeOf289
 v233 := Tryz.zeroValue289
 g15 := by kernel_rfl
 g16 := by kernel_rfl
 g17 := by kernel_rfl
 g18 := by kernel_rfl
 g19 := by kernel_rfl }
open Go.RowKit in
theorem Tryz.strconv_Atoi (s : ByteArray) (n : Int) (hl : s.size ≤ 18) (h : Lib.atoi s.data.toList = some n) (w : World) :
  Calls Tryz.prog 119 #[.string s] w fun e w' => e = .returned (.tuple #[.int .i64 n, .nilIface]) ∧ ∃ t, w' = Lib.bytesWorld w 5 t := Any.strconv_Atoi Tryz.lays172 s n hl h w
def Tryz.lays206_ren : Go.Shelf.Ren := ⟨fun | 206 => 151 | n => n, fun | 9 => 9 | 4 => 4 | 3 => 3 | n => n, fun | n => n⟩
theorem Tryz.lays206 : Go.Proofs.Lays.n206 Tryz.prog Tryz.lays206_ren := {
 mixed := by kernel_rfl
 f206 := Tryz.func151.trans (congrArg some (by kernel_rfl))
 t3 := Tryz.underlying3
 a3 := Tryz.isAgg3
 z3 := Tryz.sizeOf3
 v3 := Tryz.zeroValue3
 t4 := Tryz.underlying4
 a4 := Tryz.isAgg4
 z4 := Tryz.sizeOf4
 v4 := Tryz.zeroValue4
 t9 := Tryz.underlying9
 a9 := Tryz.isAgg9
 z9 := Tryz.sizeOf9
 v9 := Tryz.zeroValue9 }
open Go.RowKit Go.Lib in
theorem Tryz.stringslite_HasPrefix (s p : ByteArray) (w : World) :
  Calls Tryz.prog 151 #[.string s, .string p] w fun e w' => e = .returned (.bool (Lib.hasPrefix s.data.toList p.data.toList)) ∧ w' = w := Any.stringslite_HasPrefix Tryz.lays206 s p w
end Go.Proofs
