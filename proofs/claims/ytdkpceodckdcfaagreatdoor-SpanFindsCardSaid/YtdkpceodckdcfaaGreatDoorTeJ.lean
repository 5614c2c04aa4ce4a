/- kingpostref01: two small integers, writing, the greatest common divisor. -/
import Derived.Test.YtdkpceodckdcfaaGreatDoorTeI
import Derived.Test.YtdkpceodckdcfaaGreatDoorArN
import Derived.Test.YtdkpceodckdcfaaGreatDoorTeA
import Derived.Shelf.Strconv.Itoa3
import Derived.Shelf.Strings.Search2
import Derived.Shelf.LaysM
import Derived.Test.YtdkpceodckdcfaaGreatDoorProg
import Derived.Test.YtdkpceodckdcfaaGreatDoorSxS
import Derived.Shelf.Strconv.Atoi
import Derived.Shelf.Strings.SlTrimAscii
import Derived.Shelf.Strings.Prefix
set_option linter.unusedSimpArgs false
set_option linter.unusedVariables false
namespace Go.Te
open Go Go.Sx Go.Proofs Go.Ar Go.Lib
set_option maxRecDepth 100000
set_option maxHeartbeats 4000000
def ub : List AV → Option (List zN × AV)
 | [.str a, .str b] => some ([.p (Zy a = true), .p (a.length ≤ 4294967280), .p (Zy b = true), .p (b.length ≤ 4294967280)], .tup 3 (zT [.i (bif leB a.length 17 then zt a else 0), .i (bif leB a.length 17 && leB b.length 17 then zt b else 0), .b (leB a.length 17 && leB b.length 17)]))
 | _ => none
theorem m8 (a : List UInt8) (b : List UInt8) (ha : Zy a = true) (hla : a.length ≤ 4294967280) (hb' : Zy b = true) (hlb : b.length ≤ 4294967280) :
 zB [AV.str a, AV.str b] → Zy a = true ∧ lN a ≤ nM ∧ zZ (!leB (lZ a) (17 : Int)) (3 = lN [AV.junk, AV.junk, AV.junk] ∧ ((True ∧ kI ∧ iZ = bif leB (lZ a) (17 : Int) then zt a else iZ) ∧ kI ∧ iZ = bif leB (lZ a) (17 : Int) && leB (lZ b) (17 : Int) then zt b else iZ) ∧ false = (leB (lZ a) (17 : Int) && leB (lZ b) (17 : Int))) (Zy b = true ∧ lN b ≤ nM ∧ 3 = lN [AV.junk,
 AV.junk, AV.junk] ∧ ((True ∧ kI ∧ (bif leB (lZ a) (17 : Int) then zt a else iZ) = bif leB (lZ a) (17 : Int) then zt a else iZ) ∧ kI ∧ (bif leB (lZ b) (17 : Int) then zt b else iZ) = bif leB (lZ a) (17 : Int) && leB (lZ b) (17 : Int) then zt b else iZ) ∧ leB (lZ b) (17 : Int) = (leB (lZ a) (17 : Int) && leB (lZ b) (17 : Int))) := by
 delta nM kI lZ lN iZ
 intro hb
 simp only [sS, dS]
 refine ⟨ha, hla, ?_⟩
 refine zu.2 ⟨fun c => ?_, fun c => ⟨hb', hlb, ?_⟩⟩
 ·rw [Bool.not_eq_true'] at c
  rw [c]
  exact ⟨rfl, ⟨rfl, rfl⟩, rfl⟩
 ·rw [Bool.not_eq_false'] at c
  rw [c]
  simp only [Bool.true_and]
  exact ⟨rfl, trivial, trivial⟩
theorem KZ (a : List UInt8) (b : List UInt8) (ha : Zy a = true) (hla : a.length ≤ 4294967280) (hb' : Zy b = true) (hlb : b.length ≤ 4294967280) : zS Tryz.prog [] 103 [.str a, .str b] (.tup 3 (zT [.i (bif leB a.length 17 then zt a else 0), .i (bif leB a.length 17 && leB b.length 17 then zt b else 0), .b (leB a.length 17 && leB b.length 17)])) :=
 zV (T := T0.plus 153 VB) (an := .auto) mixed (zY.plus zr Ot) (Eq.mp (by kernel_rfl) (m8 a b ha hla hb' hlb))
theorem Ph : zQ Tryz.prog [] 103 ub := by
 intro xs ps r h hp
 unfold ub at h
 split at h
 ·skip
  rename_i a b
  cases h
  obtain ⟨q0, q1, q2, q3, -⟩ := Zx hp
  exact weaken (ys := [.str a, .str b]) ⟨zX _, zX _, trivial⟩ (KZ a b q0 q1 q2 q3)
 ·cases h
structure Big where
 neg : Bool
 l : List Int
instance : zp Big := ⟨2, ⟨false, []⟩, fun c => zT [.b c.neg, Zp c.l], fun cs => ⟨AV.bool (cs 0), xy (cs 1)⟩, fun cs => isBool (cs 0) && za Int (cs 1), fun cs h j hj => by
 simp only [Bool.and_eq_true] at h
 match j, hj with
 | 0, _ => exact zf (s8 h.1)
 | 1, _ => exact zi h.2⟩
structure xR where
 i : Nat
 out : zh
structure WX where
 j : Nat
 out : zh
def J4 (l : zh) : OB := .arr 5 1 l.length fun i _ => .v (.int .u8 ((l.getD i 0).toNat : Int))
def VY : OB → zh
 | .arr _ _ n els => (List.range n).map fun i => Qe (els i 0)
 | _ => []
theorem gX (o : zh) (z : Nat) : ((List.range (o.length - z)).map fun i => Qe (AV.v (Value.int IntKind.u8 ((o.getD (z + i) 0).toNat : Int)))) = o.drop z := by
 apply List.ext_getElem
 ·simp
 ·intro i h1 h2
  simp only [List.length_map, List.length_range] at h1
  rw [List.getElem_map, List.getElem_range, List.getElem_drop]
  show UInt8.ofNat ((o.getD (z + i) 0).toNat : Int).toNat = _
  rw [Int.toNat_natCast, UInt8.ofNat_toNat, List.getD_eq_getElem?_getD, List.getElem?_eq_getElem (by omega)]
  rfl
theorem fq (o : zh) : VY (OB.arr 5 1 o.length fun i x => AV.v (Value.int IntKind.u8 ((o.getD i 0).toNat : Int))) = o := by
 have := gX o 0
 simp only [Nat.zero_add, Nat.sub_zero, List.drop_zero] at this
 exact this
theorem om (l : zh) (i k : Nat) (v : UInt8) (hk : k < l.length) : (l.set k v).getD i 0 = if k = i then v else l.getD i 0 := by
 rw [List.getD_eq_getElem?_getD, List.getD_eq_getElem?_getD, List.getElem?_set]
 by_cases e : k = i
 ·subst e; rw [if_pos rfl, if_pos hk, if_pos rfl]; rfl
 ·rw [if_neg e, if_neg e]
theorem GV (l : zh) (k : Nat) (v : UInt8) (n : Int) (hn : n = (v.toNat : Int)) (hk : k < l.length) (i j : Nat) (hj : j < 1) : zc (if i = k ∧ j < 1 then AV.v (Value.int IntKind.u8 n) else AV.v (Value.int IntKind.u8 ((l.getD i 0).toNat : Int))) (AV.v (Value.int IntKind.u8 (((l.set k v).getD i 0).toNat : Int))) := by
 refine zf ?_
 rw [om l i k v hk]
 by_cases e : i = k
 ·rw [if_pos ⟨e, hj⟩, if_pos e.symm, hn]
 ·rw [if_neg fun h => e h.1, if_neg fun h => e h.symm]
theorem VI {out : zh} : ∀ {z : Nat}, z ≤ out.length → (∀ i, i < z → out.getD i 0 = 48) → zk (out.drop z) = zk out
 | 0, _, _ => by rw [List.drop_zero]
 | z + 1, hz, h => by rw [pT (by omega) (h z (by omega)), VI (by omega) fun i hi => h i (by omega)]
def QC (x : Big) : yW :=
 .two .auto (.two .auto (.two .auto (.two (.two .auto (.one (.loop xR (fun σ z => [(1, σ.tm 1), (3, σ.tm 3), (4, .i (z.i : Int))]) (fun σ z => [(Yx (σ.tm 3), J4 z.out)]) 0 (fun σ z => sJ x.l z.i 0 z.out ∧ z.i ≤ x.l.length) (fun σ z => x.l.length - z.i) (.two .auto (.two (.one (.two .auto (.two .auto (.one (.loop WX (fun σ z => [(1, σ.tm 1), (3, σ.tm 3), (4, σ.tm 4), (5, .i (((x.l.getD (AV.int (σ.tm 4)).toNat 0).toNat / 10 ^ z.j : Nat) : Int)), (6, .i ((z.j : Int) + 1))]) (fun σ z => [(Yx (σ.tm 3), J4 z.out)]) 0 (fun σ z => sJ x.l (AV.int (σ.tm 4)).toNat z.j z.out ∧ z.j ≤ 6) (fun σ z => 6 - z.j) .auto))))) .auto))))) (.two (.one (.loop Nat (fun σ z => [(1, σ.tm 1), (3, .ns (Yx (σ.tm 3)) z (6 * x.l.length - z))]) (fun σ z => []) 0 (fun σ z => z < 6 * x.l.length ∧ ∀ i, i < z → (VY (σ.bl (Yx (σ.tm 3)))).getD i 0 = 48) (fun σ z => 6 * x.l.length - z) .auto)) .auto))))
def ww : List AV → Option (List zN × AV)
 | [x_x] => some ([.b (ZH Big x_x), .p (Zv 1000000 (ZR (α := Big) x_x).l), .p (zm (ZR (α := Big) x_x).l = (ZR (α := Big) x_x).l), .p ((ZR (α := Big) x_x).l.length ≤ 100000000), .p ((ZR (α := Big) x_x).neg = true → (ZR (α := Big) x_x).l.length ≠ 0)], .str (itoa (bif (ZR (α := Big) x_x).neg then - zW 1000000 (ZR (α := Big) x_x).l else zW 1000000 (ZR (α := Big) x_x).l)))
 | _ => none
theorem pY (x : Big) (hx : Zv 1000000 x.l) (ht : zm x.l = x.l) (hl : x.l.length ≤ 100000000) (h0 : x.neg = true → x.l.length ≠ 0) :
 let q1 := (bif Big.neg x then -zW (1000000 : Int) (Big.l x) else zW (1000000 : Int) (Big.l x)); let q2 := ((6 : Int) * (lZ (Big.l x))); let q3 := (nat_lit 1 = 1 ∧ 0 = 0 ∧ Int.toNat q2 = Int.toNat q2); let q5 := (xI (Big.l x)); let q4 := (143 = 143 ∧ 2 = 2 ∧ Big.neg x = Big.neg x ∧ zc q5 q5); let q9 := (cI (Int.toNat q2)); zB [AV.agg 2 (zp.enc x)] → zZ ((lZ (Big.l x)) == iZ) (bA #[(48 : UInt8)] = itoa q1)
 (bF (dK q2) (bF (DB.db (iZ ≤ (6 : Int) * (lZ (Big.l x)) ∧ (6 : Int) * (lZ (Big.l x)) ≤ (6 : Int) * (lZ (Big.l x)) ∧ (↑1 : Int) * q2 ≤ (140737488355328 : Int))) ((∃ (z : xR), ((sJ (Big.l x) (xR.i z) 0 (xR.out z) ∧ xR.i z ≤ lN (Big.l x)) ∧ (nat_lit 0 = 0 ∧ 0 = 0) ∧ q3 ∧ kI ∧ iZ = (cI (xR.i z))) ∧ q4 ∧ (5 : TypeId) = 5 ∧ 1 = 1 ∧ lN (xR.out z) = Int.toNat q2 ∧ ∀ (i j : Nat), i < Int.toNat q2 → j < 1 → zc (Zf (Value.int IntKind.u8 iZ) j) (AV.v (Value.int
 IntKind.u8 (cI (UInt8.toNat (gD (xR.out z) i (0 : UInt8))))))) ∧ ∀ (z : xR), let q6 := (Int.toNat (AV.int (aI (cI (xR.i z))))); let q7 := (kI ∧ (cI (xR.i z)) = (cI (xR.i z))); let q8 := (gD (Big.l x) q6 iZ); sJ (Big.l x) (xR.i z) 0 (xR.out z) ∧ xR.i z ≤ lN (Big.l x) → zZ (zn (cI (xR.i z)) (lZ (Big.l x))) (bF (DB.db (iZ ≤ (cI (xR.i z)) ∧ (cI (xR.i z)) < (lZ (Big.l x)))) ((∃ (z_1 : WX), ((sJ (Big.l x) q6 (WX.j z_1) (WX.out z_1) ∧ WX.j
 z_1 ≤ 6) ∧ (nat_lit 0 = 0 ∧ 0 = 0) ∧ q3 ∧ q7 ∧ (kI ∧ gD (Big.l x) (Int.toNat (cI (xR.i z))) zp.dflt = (cI (Int.toNat q8 / 10 ^ WX.j z_1))) ∧ kI ∧ iO = (cI (WX.j z_1)) + iO) ∧ q4 ∧ 5 = 5 ∧ 1 = 1 ∧ lN (WX.out z_1) = lN (xR.out z) ∧ ∀ (i j : Nat), i < lN (xR.out z) → j < 1 → IntKind.u8 = IntKind.u8 ∧ (cI (UInt8.toNat (gD (xR.out z) i (0 : UInt8)))) = (cI (UInt8.toNat (gD (WX.out z_1) i (0 : UInt8))))) ∧ ∀ (z_1 : WX), let q10 := (q9 - (6 : Int) * (cI (xR.i z)) - ((cI (WX.j
 z_1)) + iO)); let q12 := (cI (Int.toNat q8 / 10 ^ WX.j z_1)); let q11 := ((48 : Int) + Int.tmod q12 (10 : Int)); sJ (Big.l x) q6 (WX.j z_1) (WX.out z_1) ∧ WX.j z_1 ≤ 6 → zZ (leB ((cI (WX.j z_1)) + iO) (6 : Int)) (bF (dK ((6 : Int) * (cI (xR.i z)))) (bF (dK (q9 - (6 : Int) * (cI (xR.i z)))) (bF (dK q10) (bF (dK q11) (bF (DB.db (YZ IntKind.u8 q11)) (bF (DB.db (iZ ≤ q9 - (6 : Int) * (cI (xR.i z)) - ((cI (WX.j z_1)) + iO) ∧ q9 - (6 : Int) *
 (cI (xR.i z)) - ((cI (WX.j z_1)) + iO) < q9)) (bF (dK (Int.tdiv q12 (10 : Int))) (bF (dK ((cI (WX.j z_1)) + iO + iO)) (∃ (z' : WX), (((sJ (Big.l x) q6 (WX.j z') (WX.out z') ∧ WX.j z' ≤ 6) ∧ 6 - WX.j z' < 6 - WX.j z_1) ∧ (nat_lit 0 = 0 ∧ 0 = 0) ∧ q3 ∧ q7 ∧ (kI ∧ Int.tdiv q12 (10 : Int) = (cI (Int.toNat q8 / 10 ^ WX.j z'))) ∧ kI ∧ (cI (WX.j z_1)) + iO + iO = (cI (WX.j z')) + iO) ∧ q4 ∧ 5 = 5 ∧ 1 = 1 ∧ lN (WX.out z') = lN (WX.out
 z_1) ∧ ∀ (i j : Nat), i < lN (WX.out z_1) → j < 1 → zc (if i = 0 + Int.toNat q10 ∧ 0 ≤ j ∧ j < 1 then AV.v (Value.int IntKind.u8 q11) else a8 (gD (WX.out z_1) i (0 : UInt8))) (a8 (gD (WX.out z') i (0 : UInt8)))))))))))) (bF (dK ((cI (xR.i z)) + iO)) (∃ (z' : xR), (((sJ (Big.l x) (xR.i z') 0 (xR.out z') ∧ xR.i z' ≤ lN (Big.l x)) ∧ lN (Big.l x) - xR.i z' < lN (Big.l
 x) - xR.i z) ∧ (nat_lit 0 = 0 ∧ 0 = 0) ∧ q3 ∧ kI ∧ (cI (xR.i z)) + iO = (cI (xR.i z'))) ∧ q4 ∧ 5 = 5 ∧ 1 = 1 ∧ lN (xR.out z') = lN (WX.out z_1) ∧ ∀ (i j : Nat), i < lN (WX.out z_1) → j < 1 → IntKind.u8 = IntKind.u8 ∧ (cI (UInt8.toNat (gD (WX.out z_1) i (0 : UInt8)))) = (cI (UInt8.toNat (gD (xR.out z') i (0 : UInt8)))))))) ((∃ (z_1 : Nat), ((z_1 < 6 * lN (Big.l x) ∧ ∀ (i : Nat), i < z_1 → gD (VY (OB.arr (5 : TypeId) 1 (lN (xR.out z)) fun (i x : Nat) => AV.v
 (Value.int IntKind.u8 (cI (UInt8.toNat (gD (xR.out z) i (0 : UInt8))))))) i (0 : UInt8) = (48 : UInt8)) ∧ (nat_lit 0 = 0 ∧ 0 = 0) ∧ nat_lit 1 = 1 ∧ z_1 = 0 ∧ 6 * lN (Big.l x) - z_1 = Int.toNat q2) ∧ q4 ∧ 5 = 5 ∧ 1 = 1 ∧ lN (xR.out z) = lN (xR.out z) ∧ ∀ (i j : Nat), let q13 := (cI (UInt8.toNat (gD (xR.out z) i (0 : UInt8)))); i < lN (xR.out z) → j < 1 → IntKind.u8 = IntKind.u8 ∧ q13 = q13) ∧ ∀ (z_1 : Nat), let q14 := (cI (6 * lN (Big.l x) - z_1)); let q16 := (∀ (i : Nat), i < 6 * lN (Big.l x) - z_1 → ∃ (k :
 Int), (fun (i x : Nat) => a8 (gD (xR.out z) i (0 : UInt8))) (z_1 + i) 0 = AV.v (Value.int IntKind.u8 k)); let q17 := (fun (i : Nat) => Qe ((fun (i x : Nat) => a8 (gD (xR.out z) i (0 : UInt8))) (z_1 + i) 0)); let q18 := (List.range (6 * lN (Big.l x) - z_1)); (z_1 < 6 * lN (Big.l x) ∧ ∀ (i : Nat), i < z_1 → gD (VY (OB.arr (5 : TypeId) 1 (lN (xR.out z)) fun (i x : Nat) => a8 (gD (xR.out z) i (0 :
 UInt8)))) i (0 : UInt8) = (48 : UInt8)) → bF (DB.db (iZ ≤ iZ ∧ iZ < q14)) (zZ ((cI (UInt8.toNat (gD (xR.out z) (z_1 + 0) (0 : UInt8)))) == (48 : Int)) (bF (DB.db (iZ ≤ iO ∧ iO ≤ q14)) (∃ (z' : Nat), (((z' < 6 * lN (Big.l x) ∧ ∀ (i : Nat), i < z' → gD (VY (OB.arr (5 : TypeId) 1 (lN (xR.out z)) fun (i x : Nat) => a8 (gD (xR.out z) i (0 : UInt8)))) i (0 : UInt8) = (48 : UInt8)) ∧ 6 * lN (Big.l x) - z' < 6 * lN (Big.l x)
 - z_1) ∧ (nat_lit 0 = 0 ∧ 0 = 0) ∧ nat_lit 1 = 1 ∧ z' = z_1 + 1 ∧ 6 * lN (Big.l x) - z' = 6 * lN (Big.l x) - z_1 - 1) ∧ q4 ∧ 5 = 5 ∧ 1 = 1 ∧ lN (xR.out z) = lN (xR.out z) ∧ ∀ (i j : Nat), let q15 := (cI (UInt8.toNat (gD (xR.out z) i (0 : UInt8)))); i < lN (xR.out z) → j < 1 → IntKind.u8 = IntKind.u8 ∧ q15 = q15)) (zZ (Big.neg x) (q16 ∧ bF (DB.db (1 + lN (List.map q17 q18) ≤ nX)) (bA #[(45 : UInt8)] ++ List.map q17 q18 = itoa q1)) (q16 ∧ List.map q17
 q18 = itoa q1))))))) := by
 delta bF dK bA a8 xI nX cI kI lZ lN gD iZ iO aI
 dsimp only
 intro hb
 have e0 : (zp.dflt : Int) = 0 := rfl
 simp only [↓ZK, ↓ZT, row_one]
 simp only [sS, dS, e0]
 have ev : ((6 : Int) * (x.l.length : Int)).toNat = 6 * x.l.length := by omega
 rw [ev]
 refine ⟨fun hz => ?_, fun hz => ⟨⟨by omega, by omega⟩, ⟨by omega, Int.le_refl _, by omega⟩, ⟨⟨0, List.replicate (6 * x.l.length) 0⟩, ⟨⟨.start _, Nat.zero_le _⟩, rfl⟩, by simp, fun i j _ hj => ?_⟩, fun z ⟨z1, z2⟩ => ⟨fun hlt => ⟨⟨by omega, hlt⟩, ⟨⟨0, z.out⟩, ⟨⟨z1, by simp⟩, ?_, rfl⟩, rfl, fun _ _ _ _ => rfl⟩, fun t ⟨t1, t2⟩ => ⟨fun hj => ?_, fun hj => ?_⟩⟩, fun hge => ?_⟩⟩⟩
 ·have hn : x.neg = false := by
   cases hx : x.neg with
   | false => rfl
   | true => exact absurd (by omega) (h0 hx)
  have he : x.l = [] := List.eq_nil_of_length_eq_zero (by omega)
  rw [hn, he]
  have : itoa ((0 : Nat) : Int) = [48] := by rw [Go.Ar.Zi, zA (by omega)]; rfl
  exact this.symm
 ·obtain rfl : j = 0 := by omega
  refine zf ?_
  rw [List.getD_eq_getElem?_getD, List.getElem?_replicate]
  split <;> rfl
 ·have := hx.get (by omega) z.i
  rw [Nat.pow_zero, Nat.div_one]
  omega
 ·have g1 := hx.get (by omega) z.i
  obtain ⟨X, hX⟩ : ∃ X : Nat, x.l.getD z.i 0 = X := ⟨(x.l.getD z.i 0).toNat, by omega⟩
  have hs := t1.step (by omega) (by omega)
  rw [hX] at g1 hs ⊢
  simp only [Int.toNat_natCast] at hs ⊢
  have hY : X / 10 ^ t.j ≤ X := Nat.div_le_self _ _
  have hY2 : X / 10 ^ (t.j + 1) = X / 10 ^ t.j / 10 := by rw [Nat.pow_succ, Nat.div_div_eq_div_mul]
  generalize X / 10 ^ t.j = Y at *
  have tm : ((Y : Nat) : Int).tmod 10 = ((Y % 10 : Nat) : Int) := by rw [Int.tmod_eq_emod_of_nonneg (by omega)]; omega
  have td : ((Y : Nat) : Int).tdiv 10 = ((Y / 10 : Nat) : Int) := by rw [Int.tdiv_eq_ediv_of_nonneg (by omega)]; omega
  have hm : Y % 10 < 10 := Nat.mod_lt _ (by omega)
  rw [tm, td]
  have tl := t1.len
  have ek : ((6 * x.l.length : Nat) : Int) - 6 * (z.i : Int) - ((t.j : Int) + 1) = ((6 * x.l.length - 6 * z.i - t.j - 1 : Nat) : Int) := by omega
  rw [ek, Int.toNat_natCast]
  exact ⟨⟨by omega, by omega⟩, ⟨by omega, by omega⟩, ⟨by omega, by omega⟩, ⟨by omega, by omega⟩, ⟨by omega, by omega⟩, ⟨by omega, by omega⟩, ⟨by omega, by omega⟩, ⟨by omega, by omega⟩, ⟨t.j + 1, _⟩, ⟨⟨⟨hs, by simp only; omega⟩, by simp only; omega⟩, by simp only [hY2], by simp only; omega⟩, by simp, fun i j _ hj => GV _ _ _ _ (by rw [wQ hm]; omega) (by omega) i j hj⟩
 ·have ej : t.j = 6 := by omega
  have hw := (ej ▸ t1 : sJ x.l z.i 6 t.out).next hx (by omega)
  exact ⟨⟨by omega, by omega⟩, ⟨z.i + 1, t.out⟩, ⟨⟨⟨hw, by simp only; omega⟩, by simp only; omega⟩, by simp⟩, rfl, fun _ _ _ _ => rfl⟩
 ·have ei : z.i = x.l.length := by omega
  obtain ⟨w1, w2⟩ := (ei ▸ z1 : sJ x.l x.l.length 0 z.out).end_
  have hV := j8 hx ht (by omega)
  have zl := z1.len
  simp only [fq]
  rw [← zl]
  refine ⟨⟨0, ⟨⟨by omega, fun i hi => absurd hi (Nat.not_lt_zero _)⟩, rfl, rfl⟩, fun _ _ _ _ => trivial⟩, fun k ⟨k1, k2⟩ => ⟨⟨Int.le_refl _, by omega⟩, fun h48 => ?_, fun h48 => ?_⟩⟩
  ·have hk : z.out.getD k 0 = 48 := UInt8.toNat_inj.1 (by rw [Nat.add_zero] at h48; have : (48 : UInt8).toNat = 48 := rfl; omega)
   have hall : ∀ i, i < k + 1 → z.out.getD i 0 = 48 := fun i hi => by
    by_cases e : i = k
    ·rw [e]; exact hk
    ·exact k2 i (by omega)
   have hlt : k + 1 < z.out.length := by
    refine Decidable.byContradiction fun hn => ?_
    have := VI (out := z.out) (z := k + 1) (by omega) hall
    rw [List.drop_of_length_le (by omega), w2] at this
    simp [zk] at this
    omega
   exact ⟨⟨by omega, by omega⟩, k + 1, ⟨⟨⟨hlt, hall⟩, by omega⟩, rfl, by omega⟩, fun _ _ _ _ => trivial⟩
  ·have hk : z.out.getD k 0 ≠ 48 := fun e => h48 (by rw [Nat.add_zero, e]; rfl)
   have he := o8 w1 k1 hk ((VI (by omega) k2).trans w2)
   rw [gX, he]
   obtain ⟨n, hn⟩ : ∃ n : Nat, zW 1000000 x.l = n := ⟨(zW 1000000 x.l).toNat, by omega⟩
   rw [hn, Int.toNat_natCast]
   have hlen := congrArg List.length he
   rw [List.length_drop, hn, Int.toNat_natCast] at hlen
   refine zu.2 ⟨fun c => ⟨fun i _ => ⟨_, rfl⟩, by omega, ?_⟩, fun c => ⟨fun i _ => ⟨_, rfl⟩, ?_⟩⟩
   ·rw [c]
    exact (Go.Ar.itoa_neg (by omega)).symm
   ·rw [c]
    exact (Go.Ar.Zi n).symm
theorem nY (x : Big) (hx : Zv 1000000 x.l) (ht : zm x.l = x.l) (hl : x.l.length ≤ 100000000) (h0 : x.neg = true → x.l.length ≠ 0) : zS Tryz.prog [] 106 [yx x] (.str (itoa (bif x.neg then - zW 1000000 x.l else zW 1000000 x.l))) :=
 zV (T := T0) (an := QC x) mixed zr (Eq.mp (by kernel_rfl) (pY x hx ht hl h0))
theorem uw : zQ Tryz.prog [] 106 ww := by
 intro xs ps r h hp
 unfold ww at h
 split at h
 ·skip
  rename_i x_x
  cases h
  obtain ⟨q0, q1, q2, q3, q4, -⟩ := Zx hp
  exact weaken (ys := [yx (ZR (α := Big) x_x)]) ⟨zH q0, trivial⟩ (nY (ZR (α := Big) x_x) q1 q2 q3 q4)
 ·cases h
end Go.Te

namespace Go.Te
open Go Go.Sx Go.Proofs Go.Ar
set_option maxRecDepth 100000
set_option maxHeartbeats 4000000
structure fm where
 i : Nat
 n : Int
def pg (l : List Row) (w d s q : Int) : yW :=
 .two .auto (.one (.loop Nat (fun σ z => [(0, σ.tm 0), (2, σ.tm 2), (3, σ.tm 3), (4, σ.tm 4), (5, σ.tm 5), (9, σ.tm 9), (10, σ.tm 10), (11, .i z)]) (fun _ z => [(0, .box 3 1 fun _ => .i (yO l w d s q z))]) 0
  (fun _ z => z ≤ l.length) (fun _ z => l.length - z) .auto))
def pM (l : List Row) (w d s q : Int) : yW :=
 .two .auto (.two .auto (.two (.two .auto (.one (.range (pg l w d s q) .auto .auto))) .auto))
noncomputable def Gb : Tb := T0.body Tryz.prog [(111, .auto)]
theorem O8 : zY Tryz.prog Gb := zY.body mixed zr _
def XY : List AV → Option (List zN × AV)
 | [x_l, .v (.int .i64 w), .v (.int .i64 d), .v (.int .i64 s), .v (.int .i64 q)] => some ([.b (za Row x_l)], .i (Zl (rowsOf x_l) w d s q))
 | _ => none
theorem pN (l : List Row) (w : Int) (d : Int) (s : Int) (q : Int) :
 let q1 := (AV.xl false 5 (lN l) fun i j => zp.enc (gD l i zp.dflt) j); let q2 := (kI ∧ (lZ l) = (lZ l)); zB [AV.xl false 5 (lN l) fun i j => zp.enc (gD l i zp.dflt) j, aI w, aI d, aI s, aI q] → (∃ (z : Nat), (z ≤ lN l ∧ nat_lit 6 = 6 ∧ (nat_lit 2 = 2 ∧ 0 = 0) ∧ (nat_lit 3 = 3 ∧ 0 = 0) ∧ (nat_lit 4 = 4 ∧ 0 = 0) ∧ (nat_lit 5 = 5 ∧ 0 = 0) ∧ zc q1 q1 ∧ q2 ∧ kI ∧ iZ = (cI z)) ∧ (((((((3 : TypeId) = 3
 ∧ 1 = 1 ∧ kI ∧ iZ = yO l w d s q z) ∧ 22 = 22 ∧ 1 = 1 ∧ zc q1 q1) ∧ 3 = 3 ∧ 1 = 1 ∧ kI ∧ w = w) ∧ 3 = 3 ∧ 1 = 1 ∧ kI ∧ d = d) ∧ 3 = 3 ∧ 1 = 1 ∧ kI ∧ s = s) ∧ 3 = 3 ∧ 1 = 1 ∧ kI ∧ q = q) ∧ lR) ∧ ∀ (z : Nat), let q6 := (gD l (Int.toNat (cI z)) zp.dflt); let q5 := (Row.w q6); let q4 := (leB q5 w); let q3 := (!zU true q4 || zU true q4); let q9 := (Row.d q6); let q8 := (bif leB q5 w then leB q9 d else false); let q7 := (!zU true q8 || zU
 true q8); let q12 := (Row.s q6); let q11 := (bif bif leB q5 w then leB q9 d else false then leB s q12 else false); let q10 := (!zU true q11 || zU true q11); let q15 := (Row.q q6); let q14 := (bif bif bif leB q5 w then leB q9 d else false then leB s q12 else false then leB q q15 else false); let q13 := (zU true q14); let q16 := ((!bif bif bif leB q5 w then leB q9 d else false then leB s q12 else false then leB q q15 else false) || zU true q14); let q17 := (if Row.n q6 > yO l w d s q z then Row.n q6 else yO l w d s q z); let q18 := (dK ((cI z) + iO)); let
 q19 := (kI ∧ yO l w d s q z = Zl l w d s q); z ≤ lN l → zZ (zn (cI z) (lZ l)) (bF (DB.db (iZ ≤ (cI z) ∧ (cI z) < (lZ l))) (zZ q3 (bF q3 (bF q3 (bF (!leB q5 w || zU true q4) (bF q7 (bF q7 (bF q7 (bF ((!bif leB q5 w then leB q9 d else false) || zU true q8) (bF q10 (bF q10 (bF q10 (bF ((!bif bif leB q5 w then leB q9 d else false then leB s q12 else false) || zU true q11) (zZ q13 (bF q13 (bF q13 (bF (!zU true q14 || true) (zZ q16
 (zZ (bif bif bif bif leB q5 w then leB q9 d else false then leB s q12 else false then leB q q15 else false then !Option.isNone (xf Code) else false) (kI ∧ q17 = Zl l w d s q) (bF q18 (∃ (z' : Nat), ((z' ≤ lN l ∧ lN l - z' < lN l - z) ∧ nat_lit 6 = 6 ∧ (nat_lit 2 = 2 ∧ 0 = 0) ∧ (nat_lit 3 = 3 ∧ 0 = 0) ∧ (nat_lit 4 = 4 ∧ 0 = 0) ∧ (nat_lit 5 = 5 ∧ 0 = 0) ∧ zc q1 q1 ∧ q2 ∧ kI ∧ (cI z) + iO = (cI z')) ∧ ((((((3 = 3 ∧ 1 = 1 ∧ kI ∧ q17 = yO l w d s q z') ∧ 22 = 22 ∧ 1 = 1 ∧ zc q1 q1) ∧ 3 = 3 ∧ 1
 = 1 ∧ kI ∧ w = w) ∧ 3 = 3 ∧ 1 = 1 ∧ kI ∧ d = d) ∧ 3 = 3 ∧ 1 = 1 ∧ kI ∧ s = s) ∧ 3 = 3 ∧ 1 = 1 ∧ kI ∧ q = q) ∧ lR))) False)))) (bF (!zU true q14 || false) (bF q16 (zZ (bif bif bif bif leB q5 w then leB q9 d else false then leB s q12 else false then leB q q15 else false then !false else false) q19 (bF q18 (∃ (z' : Nat), ((z' ≤ lN l ∧ lN l - z' < lN l - z) ∧ nat_lit 6 = 6 ∧ (nat_lit 2 = 2 ∧ 0 = 0) ∧ (nat_lit 3 = 3
 ∧ 0 = 0) ∧ (nat_lit 4 = 4 ∧ 0 = 0) ∧ (nat_lit 5 = 5 ∧ 0 = 0) ∧ zc q1 q1 ∧ q2 ∧ kI ∧ (cI z) + iO = (cI z')) ∧ ((((((3 = 3 ∧ 1 = 1 ∧ kI ∧ yO l w d s q z = yO l w d s q z') ∧ 22 = 22 ∧ 1 = 1 ∧ zc q1 q1) ∧ 3 = 3 ∧ 1 = 1 ∧ kI ∧ w = w) ∧ 3 = 3 ∧ 1 = 1 ∧ kI ∧ d = d) ∧ 3 = 3 ∧ 1 = 1 ∧ kI ∧ s = s) ∧ 3 = 3 ∧ 1 = 1 ∧ kI ∧ q = q) ∧ lR)))))))))))))))))
 False)) q19 := by
 delta bF dK lR cI kI lZ lN gD iZ iO aI
 dsimp only
 intro hb
 have e2 : (zp.dflt : Row) = r0 := rfl
 simp only [sS, ZN, Zr, ZS, ZY, YJ, yn, W9, Yd, vN, YA, vk, Yb, YC, yM, e2]
 have hb1 : l.length ≤ 9223372036854775807 := hb.1.1
 refine ⟨⟨0, ⟨by omega, rfl⟩, rfl⟩, fun z hz => ⟨fun hlt => ⟨⟨by omega, hlt⟩, ?_⟩, fun hge => ?_⟩⟩
 ·have hs : yO l w d s q (z + 1) = bif tu (l.getD z r0) w d s q then (if (l.getD z r0).n > yO l w d s q z then (l.getD z r0).n else yO l w d s q z) else yO l w d s q z := rfl
  have key : (leB (l.getD z r0).w w && leB (l.getD z r0).d d && leB s (l.getD z r0).s && leB q (l.getD z r0).q) = tu (l.getD z r0) w d s q := rfl
  rw [key]
  cases he : tu (l.getD z r0) w d s q with
  | true =>
   rw [he] at hs
   simp only [Bool.true_and, Yo]
   rw [show (!(xf Code).isNone) = false from rfl, uU]
   exact ⟨⟨by omega, by omega⟩, z + 1, ⟨⟨by omega, by omega⟩, by omega⟩, hs.symm⟩
  | false =>
   rw [he] at hs
   simp only [Bool.false_and, uU, Bool.not_false, Bool.true_or, Yo]
   exact ⟨⟨by omega, by omega⟩, z + 1, ⟨⟨by omega, by omega⟩, by omega⟩, hs.symm⟩
 ·rw [show z = l.length by omega]; rfl
theorem sY (l : List Row) (w : Int) (d : Int) (s : Int) (q : Int) : zS Tryz.prog [] 58 [Zp l, .i w, .i d, .i s, .i q] (.i (Zl l w d s q)) :=
 zV (T := Gb) (an := pM l w d s q) mixed O8 (Eq.mp (by kernel_rfl) (pN l w d s q))
theorem W0 : zQ Tryz.prog [] 58 XY := by
 intro xs ps r h hp
 unfold XY at h
 split at h
 ·skip
  rename_i x_l w d s q
  cases h
  obtain ⟨q0, -⟩ := Zx hp
  exact weaken (ys := [Zp (rowsOf x_l), .i w, .i d, .i s, .i q]) ⟨zi q0, zX _, zX _, zX _, zX _, trivial⟩ (sY (rowsOf x_l) w d s q)
 ·cases h
def sH : List AV → Option (List zN × AV)
 | [x_l, .v (.int .i64 w), .v (.int .i64 d), .v (.int .i64 s), .v (.int .i64 q)] => some ([.b (za Row x_l)], .i (yr (rowsOf x_l) w d s q))
 | _ => none
theorem JJ (l : List Row) (w : Int) (d : Int) (s : Int) (q : Int) :
 zB [AV.xl false 5 (lN l) fun i j => zp.enc (gD l i zp.dflt) j, aI w, aI d, aI s, aI q] → bF (za Row (AV.xl false 5 (lN l) fun i j => zp.enc (gD l i zp.dflt) j)) (zZ (Y4 (rowsOf (AV.xl false 5 (lN l) fun i j => zp.enc (gD l i zp.dflt) j)) != iZ) (kI ∧ iO = yr l w d s q) (zZ (!yc w d s q) (kI ∧ (2 : Int) = yr l w d s q) (kI ∧ iZ = yr l w d s q))) := by
 delta bF kI lN gD iZ iO aI
 intro hb
 have e2 : (zp.dflt : Row) = r0 := rfl
 simp only [sS, ZN, Zr, ZS, ZY, YJ, yn, W9, Yd, vN, YA, vk, Yb, YC, yM, e2]
 unfold yr
 refine ⟨fun h => by rw [bne_iff_ne.2 h]; rfl, fun h => ?_⟩
 rw [h]
 cases yc w d s q <;> rfl
theorem lj (l : List Row) (w : Int) (d : Int) (s : Int) (q : Int) : zS Tryz.prog [] 55 [Zp l, .i w, .i d, .i s, .i q] (.i (yr l w d s q)) :=
 zV (T := ((T0.plus 24 rH).plus 74 VM)) (an := .auto) mixed (zY.plus (zY.plus zr jy) qM) (Eq.mp (by kernel_rfl) (JJ l w d s q))
theorem PM : zQ Tryz.prog [] 55 sH := by
 intro xs ps r h hp
 unfold sH at h
 split at h
 ·skip
  rename_i x_l w d s q
  cases h
  obtain ⟨q0, -⟩ := Zx hp
  exact weaken (ys := [Zp (rowsOf x_l), .i w, .i d, .i s, .i q]) ⟨zi q0, zX _, zX _, zX _, zX _, trivial⟩ (lj (rowsOf x_l) w d s q)
 ·cases h
def pz : List AV → Option (List zN × AV)
 | [x_l, .v (.int .i64 w), .v (.int .i64 d), .v (.int .i64 s), .v (.int .i64 q)] => some ([.b (za Row x_l)], .tup 2 (zT [.i (yh (rowsOf x_l) w d s q), .i (yt (rowsOf x_l) w d s q)]))
 | _ => none
theorem kM (l : List Row) (w : Int) (d : Int) (s : Int) (q : Int) :
 let q2 := (AV.xl false 5 (lN l) fun i j => zp.enc (gD l i zp.dflt) j); let q1 := (za Row q2); let q3 := (rowsOf q2); let q4 := (True ∧ kI ∧ iZ = yh l w d s q); zB [AV.xl false 5 (lN l) fun i j => zp.enc (gD l i zp.dflt) j, aI w, aI d, aI s, aI q] → bF q1 (zZ (yr q3 w d s q != iZ) (j2 ∧ q4 ∧ kI ∧ yr q3 w d s q = yt l w d s q) (bF q1 (zZ (Zl q3 w d s q == iZ) (2 =
 lN [AV.junk, AV.junk] ∧ q4 ∧ kI ∧ (25 : Int) = yt l w d s q) (j2 ∧ (True ∧ kI ∧ Zl q3 w d s q = yh l w d s q) ∧ kI ∧ iZ = yt l w d s q)))) := by
 delta bF kI j2 lN gD iZ aI
 dsimp only
 intro hb
 have e2 : (zp.dflt : Row) = r0 := rfl
 simp only [sS, ZN, Zr, ZS, ZY, YJ, yn, W9, Yd, vN, YA, vk, Yb, YC, yM, e2]
 refine ⟨fun h => ?_, fun h => ⟨fun h2 => ?_, fun h2 => ?_⟩⟩
 ·have e : yt l w d s q = yr l w d s q := by unfold yt; rw [bne_iff_ne.2 h]; rfl
  exact ⟨rfl, by unfold yh; rw [e, beq_false_of_ne h]; rfl, e.symm⟩
 ·have e : yt l w d s q = 25 := by unfold yt; rw [h, h2]; rfl
  exact ⟨rfl, by unfold yh; rw [e]; rfl, e.symm⟩
 ·have e : yt l w d s q = 0 := by unfold yt; rw [h, beq_false_of_ne h2]; rfl
  exact ⟨rfl, by unfold yh; rw [e]; rfl, e.symm⟩
theorem Mv (l : List Row) (w : Int) (d : Int) (s : Int) (q : Int) : zS Tryz.prog [] 16 [Zp l, .i w, .i d, .i s, .i q] (.tup 2 (zT [.i (yh l w d s q), .i (yt l w d s q)])) :=
 zV (T := ((T0.plus 55 sH).plus 58 XY)) (an := .auto) mixed (zY.plus (zY.plus zr PM) W0) (Eq.mp (by kernel_rfl) (kM l w d s q))
theorem IO : zQ Tryz.prog [] 16 pz := by
 intro xs ps r h hp
 unfold pz at h
 split at h
 ·skip
  rename_i x_l w d s q
  cases h
  obtain ⟨q0, -⟩ := Zx hp
  exact weaken (ys := [Zp (rowsOf x_l), .i w, .i d, .i s, .i q]) ⟨zi q0, zX _, zX _, zX _, zX _, trivial⟩ (Mv (rowsOf x_l) w d s q)
 ·cases h
def QA : List AV → Option (List zN × AV)
 | [x_x, .v (.int .i64 w), .v (.int .i64 d), .v (.int .i64 s), .v (.int .i64 q)] => some ([.b (ZH Row x_x)], .b (tu (ZR (α := Row) x_x) w d s q))
 | _ => none
theorem kK (x : Row) (w : Int) (d : Int) (s : Int) (q : Int) :
 let q1 := (!zU true (leB (Row.w x) w) || zU true (leB (Row.w x) w)); let q3 := (bif leB (Row.w x) w then leB (Row.d x) d else false); let q2 := (!zU true q3 || zU true q3); let q5 := (bif bif leB (Row.w x) w then leB (Row.d x) d else false then leB s (Row.s x) else false); let q4 := (!zU true q5 || zU true q5); zB [AV.agg 5 (zp.enc x), aI w, aI d, aI s, aI q] → bF q1 (bF q1 (bF q1 (bF (!leB (Row.w x) w || zU true (leB (Row.w x) w)) (bF q2 (bF q2 (bF q2 (bF ((!bif leB
 (Row.w x) w then leB (Row.d x) d else false) || zU true q3) (bF q4 (bF q4 (bF q4 (bF ((!bif bif leB (Row.w x) w then leB (Row.d x) d else false then leB s (Row.s x) else false) || zU true q5) ((bif bif bif leB (Row.w x) w then leB (Row.d x) d else false then leB s (Row.s x) else false then leB q (Row.q x) else false) = tu x w d s q)))))))))))) := by
 delta bF aI
 dsimp only
 intro hb
 unfold tu
 simp only [sS, ZN, Zr, ZS, ZY, YJ, yn, W9, Yd, vN, YA, vk, Yb, YC, yM]
theorem im (x : Row) (w : Int) (d : Int) (s : Int) (q : Int) : zS Tryz.prog [] 124 [yx x, .i w, .i d, .i s, .i q] (.b (tu x w d s q)) :=
 zV (T := T0) (an := .auto) mixed zr (Eq.mp (by kernel_rfl) (kK x w d s q))
theorem ip : zQ Tryz.prog [] 124 QA := by
 intro xs ps r h hp
 unfold QA at h
 split at h
 ·skip
  rename_i x_x w d s q
  cases h
  obtain ⟨q0, -⟩ := Zx hp
  exact weaken (ys := [yx (ZR (α := Row) x_x), .i w, .i d, .i s, .i q]) ⟨zH q0, zX _, zX _, zX _, zX _, trivial⟩ (im (ZR (α := Row) x_x) w d s q)
 ·cases h
def NP (l : List Row) (w d s q : Int) : yW :=
 .two .auto (.two .auto (.two (.two .auto (.one (.loop Nat (fun σ z => [(0, σ.tm 0), (1, σ.tm 1), (2, σ.tm 2), (3, σ.tm 3), (4, σ.tm 4), (11, .i (yO l w d s q z)), (12, .i z)]) (fun σ z => []) 0 (fun σ z => z ≤ l.length) (fun σ z => l.length - z) .auto))) .auto))
def t6 : List AV → Option (List zN × AV)
 | [x_l, .v (.int .i64 w), .v (.int .i64 d), .v (.int .i64 s), .v (.int .i64 q)] => some ([.b (za Row x_l)], .i (Zl (rowsOf x_l) w d s q))
 | _ => none
theorem jJ (l : List Row) (w : Int) (d : Int) (s : Int) (q : Int) :
 let q1 := (AV.xl false 5 (lN l) fun i j => zp.enc (gD l i zp.dflt) j); zB [AV.xl false 5 (lN l) fun i j => zp.enc (gD l i zp.dflt) j, aI w, aI d, aI s, aI q] → (∃ (z : Nat), (z ≤ lN l ∧ zc q1 q1 ∧ (kI ∧ w = w) ∧ (kI ∧ d = d) ∧ (kI ∧ s = s) ∧ (kI ∧ q = q) ∧ (kI ∧ iZ = yO l w d s q z) ∧ kI ∧ iZ = (cI z)) ∧ True) ∧ ∀ (z : Nat), let q2 := (DB.db (iZ ≤ (↑z
 : Int) ∧ (cI z) < (lZ l))); let q3 := (gD l (Int.toNat (cI z)) zp.dflt); let q4 := (dK ((cI z) + iO)); z ≤ lN l → zZ (zn (cI z) (lZ l)) (bF q2 (zZ (tu (ZR (AV.agg 5 fun (i : Nat) => zp.enc q3 (0 + i))) w d s q) (bF q2 (bF q4 (∃ (z' : Nat), ((z' ≤ lN l ∧ lN l - z' < lN l - z) ∧ zc q1 q1 ∧ (kI ∧ w = w) ∧ (kI ∧ d = d) ∧ (kI ∧ s = s) ∧ (kI ∧ q = q) ∧ (kI ∧ (if Row.n q3 > yO l
 w d s q z then Row.n q3 else yO l w d s q z) = yO l w d s q z') ∧ kI ∧ (cI z) + iO = (cI z')) ∧ True))) (bF q4 (∃ (z' : Nat), ((z' ≤ lN l ∧ lN l - z' < lN l - z) ∧ zc q1 q1 ∧ (kI ∧ w = w) ∧ (kI ∧ d = d) ∧ (kI ∧ s = s) ∧ (kI ∧ q = q) ∧ (kI ∧ yO l w d s q z = yO l w d s q z') ∧ kI ∧ (cI z) + iO = (cI z')) ∧ True)))) (kI ∧ yO l w d s q z = Zl l w d s q) := by
 delta bF dK cI kI lZ lN gD iZ iO aI
 dsimp only
 intro hb
 have e2 : (zp.dflt : Row) = r0 := rfl
 simp only [sS, ZN, Zr, ZS, ZY, YJ, yn, W9, Yd, vN, YA, vk, Yb, YC, yM, e2]
 have hb1 : l.length ≤ 9223372036854775807 := hb.1.1
 refine ⟨⟨0, by omega, rfl, rfl⟩, fun z hz => ⟨fun hlt => ⟨⟨by omega, hlt⟩, ?_⟩, fun hge => ?_⟩⟩
 ·have hs : yO l w d s q (z + 1) = bif tu (l.getD z r0) w d s q then (if (l.getD z r0).n > yO l w d s q z then (l.getD z r0).n else yO l w d s q z) else yO l w d s q z := rfl
  cases he : tu (l.getD z r0) w d s q with
  | true =>
   rw [he] at hs
   simp only [Yo]
   exact ⟨⟨by omega, hlt⟩, ⟨by omega, by omega⟩, z + 1, ⟨by omega, by omega⟩, hs.symm, by omega⟩
  | false =>
   rw [he] at hs
   simp only [uU]
   exact ⟨⟨by omega, by omega⟩, z + 1, ⟨by omega, by omega⟩, hs.symm, by omega⟩
 ·rw [show z = l.length by omega]; rfl
theorem Iu (l : List Row) (w : Int) (d : Int) (s : Int) (q : Int) : zS Tryz.prog [] 80 [Zp l, .i w, .i d, .i s, .i q] (.i (Zl l w d s q)) :=
 zV (T := T0.plus 124 QA) (an := NP l w d s q) mixed (zY.plus zr ip) (Eq.mp (by kernel_rfl) (jJ l w d s q))
theorem Pw : zQ Tryz.prog [] 80 t6 := by
 intro xs ps r h hp
 unfold t6 at h
 split at h
 ·skip
  rename_i x_l w d s q
  cases h
  obtain ⟨q0, -⟩ := Zx hp
  exact weaken (ys := [Zp (rowsOf x_l), .i w, .i d, .i s, .i q]) ⟨zi q0, zX _, zX _, zX _, zX _, trivial⟩ (Iu (rowsOf x_l) w d s q)
 ·cases h
end Go.Te

namespace Go.Proofs
open Go.Shelf
def Tryz.lays219_ren : Go.Shelf.Ren := ⟨fun | 219 => 123 | 217 => 174 | 225 => 181 | 224 => 182 | 267 => 183 | 266 => 218 | 314 => 229 | n => n, fun | 9 => 9 | 3 => 3 | 4 => 4 | 5 => 5 | 46 => 155 | 146 => 243 | 51 => 201 | n => n, fun | 1 => 0 | n => n⟩
theorem Tryz.lays219 : Go.Proofs.Lays.n219 Tryz.prog Tryz.lays219_ren := {
 mixed := by kernel_rfl
 f217 := Tryz.func174.trans (congrArg some (by kernel_rfl))
 f219 := Tryz.func123.trans (congrArg some (by kernel_rfl))
 f224 := Tryz.func182.trans (congrArg some (by kernel_rfl))
 f225 := Tryz.func181.trans (congrArg some (by kernel_rfl))
 f266 := Tryz.func218.trans (congrArg some (by kernel_rfl))
 f267 := Tryz.func183.trans (congrArg some (by kernel_rfl))
 f314 := Tryz.func229.trans (congrArg some (by kernel_rfl))
 t3 := Tryz.underlying3
 a3 := Tryz.isAgg3
 z3 := Tryz.sizeOf3
 v3 := Tryz.zeroValue3
 t4 := Tryz.underlying4
 a4 := Tryz.isAgg4
 z4 := Tryz.sizeOf4
 v4 := Tryz.zeroValue4
 t5 := Tryz.underlying5
 a5 := Tryz.isAgg5
 z5 := Tryz.sizeOf5
 v5 := Tryz.zeroValue5
 t9 := Tryz.underlying9
 a9 := Tryz.isAgg9
 z9 := Tryz.sizeOf9
 v9 := Tryz.zeroValue9
 t46 := Tryz.underlying155
 a46 := Tryz.isAgg155
 z46 := Tryz.sizeOf155
 v46 := Tryz.zeroValue155
 t51 := Tryz.underlying201
 a51 := Tryz.isAgg201
 z51 := Tryz.sizeOf201
 v51 := Tryz.zeroValue201
 t146 := Tryz.underlying243
 a146 := Tryz.isAgg243
 z146 := Tryz.sizeOf243
 v146 := Tryz.zeroValue243
 g1 := by kernel_rfl }
open Go.RowKit Go.Lib in
theorem Tryz.stringslite_Index_one (s : ByteArray) (c : UInt8) (w : World) :
  Calls Tryz.prog 123 #[.string s, .string ⟨#[c]⟩] w fun e w' => e = .returned (.int .i64 (Lib.indexByte s.data.toList c)) ∧ w' = w := Any.stringslite_Index_one Tryz.lays219 s c w
def Tryz.laysM171_ren : Go.Shelf.Ren := ⟨fun | 171 => 71 | 243 => 121 | 246 => 180 | 283 => 225 | 284 => 226 | 285 => 227 | 286 => 228 | 129 => 173 | 317 => 248 | 318 => 249 | 319 => 250 | 320 => 251 | 337 => 270 | 338 => 271 | n => n, fun | 3 => 3 | 9 => 9 | 2 => 2 | 4 => 4 | 171 => 239 | 0 => 0 | 53 => 203 | 37 => 106 | 5 => 5 | 173 => 241 | 212 => 260 | 51 => 201 | 20 => 20 | 213 => 261 | 46 => 155 | 232 => 288 | 233 => 289 | n => n, fun | 17 => 3 | 18 => 6 | 19 => 7 | n => n⟩
theorem Tryz.laysM171 : Go.Proofs.LaysM.n171 Tryz.prog Tryz.laysM171_ren := {
 mixed := by kernel_rfl
 f129 := Tryz.func173.trans (congrArg some (by kernel_rfl))
 f171 := Tryz.func71.trans (congrArg some (by kernel_rfl))
 f243 := Tryz.func121.trans (congrArg some (by kernel_rfl))
 f246 := Tryz.func180.trans (congrArg some (by kernel_rfl))
 f283 := Tryz.func225.trans (congrArg some (by kernel_rfl))
 f284 := Tryz.func226.trans (congrArg some (by kernel_rfl))
 f285 := Tryz.func227.trans (congrArg some (by kernel_rfl))
 f286 := Tryz.func228.trans (congrArg some (by kernel_rfl))
 f317 := Tryz.func248.trans (congrArg some (by kernel_rfl))
 f318 := Tryz.func249.trans (congrArg some (by kernel_rfl))
 f319 := Tryz.func250.trans (congrArg some (by kernel_rfl))
 f320 := Tryz.func251.trans (congrArg some (by kernel_rfl))
 f337 := Tryz.func270.trans (congrArg some (by kernel_rfl))
 f338 := Tryz.func271.trans (congrArg some (by kernel_rfl))
 t0 := Tryz.underlying0
 a0 := Tryz.isAgg0
 z0 := Tryz.sizeOf0
 v0 := Tryz.zeroValue0
 t2 := Tryz.underlying2
 a2 := Tryz.isAgg2
 z2 := Tryz.sizeOf2
 v2 := Tryz.zeroValue2
 t3 := Tryz.underlying3
 a3 := Tryz.isAgg3
 z3 := Tryz.sizeOf3
 v3 := Tryz.zeroValue3
 t4 := Tryz.underlying4
 a4 := Tryz.isAgg4
 z4 := Tryz.sizeOf4
 v4 := Tryz.zeroValue4
 t5 := Tryz.underlying5
 a5 := Tryz.isAgg5
 z5 := Tryz.sizeOf5
 v5 := Tryz.zeroValue5
 t9 := Tryz.underlying9
 a9 := Tryz.isAgg9
 z9 := Tryz.sizeOf9
 v9 := Tryz.zeroValue9
 t20 := Tryz.underlying20
 a20 := Tryz.isAgg20
 z20 := Tryz.sizeOf20
 v20 := Tryz.zeroValue20
 t37 := Tryz.underlying106
 a37 := Tryz.isAgg106
 z37 := Tryz.sizeOf106
 v37 := Tryz.zeroValue106
 t46 := Tryz.underlying155
 a46 := Tryz.isAgg155
 z46 := Tryz.sizeOf155
 v46 := Tryz.zeroValue155
 t51 := Tryz.underlying201
 a51 := Tryz.isAgg201
 z51 := Tryz.sizeOf201
 v51 := Tryz.zeroValue201
 t53 := Tryz.underlying203
 a53 := Tryz.isAgg203
 z53 := Tryz.sizeOf203
 v53 := Tryz.zeroValue203
 t171 := Tryz.underlying239
 a171 := Tryz.isAgg239
 z171 := Tryz.sizeOf239
 v171 := Tryz.zeroValue239
 t173 := Tryz.underlying241
 a173 := Tryz.isAgg241
 z173 := Tryz.sizeOf241
 v173 := Tryz.zeroValue241
 t212 := Tryz.underlying260
 a212 := Tryz.isAgg260
 z212 := Tryz.sizeOf260
 v212 := Tryz.zeroValue260
 t213 := Tryz.underlying261
 a213 := Tryz.isAgg261
 z213 := Tryz.sizeOf261
 t232 := Tryz.underlying288
 a232 := Tryz.isAgg288
 z232 := Tryz.sizeOf288
 v232 := Tryz.zeroValue288
 t233 := Tryz.underlying289
 a233 := Tryz.isAgg289
 z233 := Tryz.sizeOf289
 v233 := Tryz.zeroValue289
 g17 := by kernel_rfl
 g18 := by kernel_rfl
 g19 := by kernel_rfl
 i0 := by kernel_rfl
 i2 := by kernel_rfl
 i3 := by kernel_rfl
 i4 := by kernel_rfl
 i5 := by kernel_rfl
 i9 := by kernel_rfl
 i20 := by kernel_rfl
 i37 := by kernel_rfl
 i46 := by kernel_rfl
 i51 := by kernel_rfl
 i53 := by kernel_rfl
 i171 := by kernel_rfl
 i173 := by kernel_rfl
 i212 := by kernel_rfl
 i232 := by kernel_rfl
 i233 := by kernel_rfl
 m17 := by kernel_rfl
 m18 := by kernel_rfl
 m19 := by kernel_rfl }
open Go.RowKit Go.Sort Go.Lib in
theorem Tryz.strconv_Itoa (n : Int) (h0 : -9223372036854775808 ≤ n) (h1 : n ≤ 9223372036854775807) (w : World) (htab : Lib.TabIs Tryz.prog w "internal/strconv.uint64pow10" .u64 Lib.pow10Tab) :
  Calls Tryz.prog 71 #[.int .i64 n] w fun e w' => e = .returned (.string ⟨(Lib.itoa n).toArray⟩) ∧ ∃ k os, w' = grow (w.drewN k) os := Any.strconv_Itoa Tryz.laysM171 n h0 h1 w htab
end Go.Proofs

namespace Go.Te
open Go Go.Sx Go.Proofs Go.Ar Go.RowKit
set_option maxRecDepth 100000
set_option maxHeartbeats 4000000
def Gy : AV → Bool
 | .v (.bool true) => true
 | _ => false
theorem jp (x : AV) (h : Gy x = true) : zc x (.b true) := by
 unfold Gy at h
 split at h
 ·assumption
 ·cases h
def tf : List AV → Option (List zN × AV)
 | [.str s, .str [c]] => some ([], .i (Lib.indexByte s c))
 | _ => none
theorem pQ : zQ Tryz.prog [] 123 tf := by
 intro xs ps r h hp
 unfold tf at h
 split at h
 ·rename_i s c
  cases h
  refine ⟨enters_of Tryz.func123 (by kernel_rfl) rfl, fun w S vals hS hg hr => ?_⟩
  match vals, hr with
  | [v, v2], ⟨hv, hv2, _⟩ =>
  obtain rfl := yU hv
  obtain rfl := yU hv2
  refine (Tryz.stringslite_Index_one ⟨s.toArray⟩ c w).mono ?_
  rintro e w' ⟨rfl, rfl⟩
  exact ⟨⟨Below.refl _ _, Nat.le_refl _⟩, _, rfl, .v _⟩
 ·cases h
noncomputable def fv : Tb := T0.plus 123 tf
theorem OM : zY Tryz.prog fv := zY.plus zr pQ
noncomputable def Gk : Tb := Tb.deepX Tryz.prog fv [] 12
theorem TI : zY Tryz.prog Gk := zY.deepX mixed OM [] 12
def KL : AV → Bool
 | .v (.int .i64 0) => true
 | _ => false
theorem zS.mono {P : Program} {G : List (Nat × Obj)} {f : FuncId} {xs : List AV} {r : AV} (h : zS P [] f xs r) : zS P G f xs r :=
 ⟨h.1, fun w S vals hS _ hr => h.2 w S vals hS (fun b o hbo => by cases hbo) hr⟩
theorem yk.mono {P : Program} {G : List (Nat × Obj)} {f : FuncId} {xs : List AV} {t : TypeId} {sz len : Nat} {els : Nat → Nat → AV} (h : yk P [] f xs t sz len els) : yk P G f xs t sz len els :=
 ⟨h.1, fun w S vals hS _ hr => h.2 w S vals hS (fun b o hbo => by cases hbo) hr⟩
theorem zQ.mono {P : Program} {G : List (Nat × Obj)} {f : FuncId} {t : List AV → Option (List zN × AV)} (h : zQ P [] f t) : zQ P G f t := fun xs ps r e hp => zS.mono (h xs ps r e hp)
theorem TX.mono {P : Program} {G : List (Nat × Obj)} {f : FuncId} {t : List AV → Option (List zN × TypeId × Nat × Nat × (Nat → Nat → AV))} (h : TX P [] f t) : TX P G f t := fun xs ps ty sz len els e hp => yk.mono (h xs ps ty sz len els e hp)
def zM (G : List (Nat × Obj)) : Prop := ∃ g t fr, Tryz.prog.globalNamed "internal/strconv.uint64pow10" = some g ∧ (g, Obj.cells (Lib.pow10Tab.map fun z => Value.int .u64 z).toArray t fr) ∈ G
def QV : List AV → Option (List zN × AV)
 | [.v (.int .i64 n)] => some ([.p (YZ .i64 n)], .str (Lib.itoa n))
 | _ => none
theorem Io {G : List (Nat × Obj)} (hG : zM G) : zQ Tryz.prog G 71 QV := by
 intro xs ps r h hp
 unfold QV at h
 split at h
 ·rename_i n
  cases h
  have hn : YZ .i64 n := hp _ List.mem_cons_self
  simp only [YZ] at hn
  refine ⟨enters_of Tryz.func71 (by kernel_rfl) rfl, fun w S vals hS hg hr => ?_⟩
  match vals, hr with
  | [v], ⟨hv, _⟩ =>
  obtain rfl := Zg hv
  obtain ⟨g, t, fr, hname, hmem⟩ := hG
  have htab : Lib.TabIs Tryz.prog w "internal/strconv.uint64pow10" .u64 Lib.pow10Tab := by
   unfold Lib.TabIs World.var?
   rw [hname]
   simp only [Option.bind_some, (hg _ _ hmem).2]
  refine (Tryz.strconv_Itoa n hn.1 hn.2 w htab).mono ?_
  rintro e w' ⟨rfl, k, os, rfl⟩
  exact ⟨⟨⟨rfl, rfl, rfl, by simp [Go.Sort.grow, World.drewN], fun b hb => by simp [Go.Sort.grow, World.drewN, Array.getElem?_append, hb]⟩, by simp [dn, Go.Sort.grow, World.drewN]⟩, _, rfl, .str _⟩
 ·cases h
noncomputable def j5 (G : List (Nat × Obj)) : Tb := (wn G).plus 71 QV
theorem xx {G : List (Nat × Obj)} (hG : zM G) : zY Tryz.prog (j5 G) := zY.plus zr (Io hG)
theorem Jp (G : List (Nat × Obj)) (n : Int) (hn : YZ .i64 n) :
 zB [aI n, aI iO] → (iN ≤ n ∧ n ≤ iX) ∧ j2 ∧ (True ∧ Lib.itoa n = Lib.itoa n) ∧ kI ∧ iZ = iZ := by
 delta kI j2 iZ iO iX iN aI
 intro _
 exact ⟨hn, rfl, ⟨trivial, rfl⟩, rfl, rfl⟩
theorem JY {G : List (Nat × Obj)} (hG : zM G) (n : Int) (hn : YZ .i64 n) : zS Tryz.prog G 89 [.i n, .i 1] (.tup 2 (zT [.str (Lib.itoa n), .i 0])) :=
 zV (T := j5 G) (an := .auto) mixed (xx hG) (Eq.mp (by kernel_rfl) (Jp G n hn))
def QJ (t : Bool) : AV → Bool
 | .tup 2 vs => (match vs 0 with | .v (.bool a) => a == t | _ => false) && (match vs 1 with | .v (.int .i64 0) => true | _ => false)
 | _ => false
theorem WM {t : Bool} (x : AV) (h : QJ t x = true) : zc x (.tup 2 (zT [.b t, .i 0])) := by
 unfold QJ at h
 split at h
 ·rename_i vs
  simp only [Bool.and_eq_true] at h
  refine ⟨rfl, Us fun i hi => ?_⟩
  match i, hi with
  | 0, _ =>
   show zc (vs 0) (.b t)
   have h1 := h.1
   split at h1
   ·rename_i a ha; rw [ha, eq_of_beq h1]; exact zX _
   ·cases h1
  | 1, _ =>
   show zc (vs 1) (.i 0)
   have h1 := h.2
   split at h1
   ·rename_i ha; rw [ha]; exact zX _
   ·cases h1
 ·cases h
noncomputable def TF (G : List (Nat × Obj)) (n : Int) (nl : List UInt8) : Tb := ((wn G).plus 123 tf).plus 89 (Rq [.i n, .i 1] (.tup 2 (zT [.str nl, .i 0])))
noncomputable def DF (G : List (Nat × Obj)) (n : Int) (nl : List UInt8) : Tb := Tb.deepX Tryz.prog (TF G n nl) [] 12
theorem Vs {G : List (Nat × Obj)} (hG : zM G) {n : Int} {nl : List UInt8} (hn : YZ .i64 n) (h : Lib.itoa n = nl) : zY Tryz.prog (DF G n nl) :=
 zY.deepX mixed (zY.plus (zY.plus zr (zQ.mono pQ)) (tz (h ▸ JY hG n hn))) [] 12
theorem l8 (G : List (Nat × Obj)) :
 Wk [aI (3600 : Int), aI iO] [aI (3600 : Int), aI iO] ∧ True := by
 delta iO aI
 exact ⟨Wk.refl _, trivial⟩
theorem NR (G : List (Nat × Obj)) :
 Wk [aI (3600 : Int), aI iO] [aI (3600 : Int), aI iO] ∧ True := by
 delta iO aI
 exact ⟨Wk.refl _, trivial⟩
theorem mH (G : List (Nat × Obj)) :
 Wk [aI (2500 : Int), aI iO] [aI (2500 : Int), aI iO] ∧ True := by
 delta iO aI
 exact ⟨Wk.refl _, trivial⟩
theorem mQ (G : List (Nat × Obj)) :
 Wk [aI (2800 : Int), aI iO] [aI (2800 : Int), aI iO] ∧ True := by
 delta iO aI
 exact ⟨Wk.refl _, trivial⟩
theorem Gz (l : List UInt8) (h : Zw l = true) : Lib.itoa (zk l : Int) = l := by rw [Zi, ZJ h]
abbrev sA : List UInt8 := [50, 54, 48, 48]
abbrev sB : List UInt8 := [55, 50, 48, 49, 47, 50]
def Ux : List AV → Option (List zN × AV)
 | [.v (.int .i64 n), .str s] =>
  bif n == 2500 then some ([.b (s == sA)], .tup 2 (zT [.b false, .i 0]))
  else bif n == 2800 then some ([.b (s == sA)], .tup 2 (zT [.b true, .i 0]))
  else bif n == 3600 then some ([.b (s == sA || s == sB)], .tup 2 (zT [.b (s == sA), .i 0])) else none
 | _ => none
theorem Pp {G : List (Nat × Obj)} (hG : zM G) : zQ Tryz.prog G 57 Ux := by
 intro xs ps r h hp
 unfold Ux at h
 split at h
 ·rename_i n s
  cases h1 : n == 2500 with
  | true =>
   rw [h1] at h
   cases h
   obtain rfl := eq_of_beq h1
   have q : (s == sA) = true := hp _ List.mem_cons_self
   obtain rfl := eq_of_beq q
   exact yo mixed (Vs hG (by simp only [YZ]; decide) (Gz [50, 53, 48, 48] (by decide))) WM (Eq.mp (by kernel_rfl) (mH G) : wz Tryz.prog (DF G 2500 [50, 53, 48, 48]) 57 .auto [.i 2500, .str [50, 54, 48, 48]] (QJ false))
  | false =>
  rw [h1] at h
  cases h2 : n == 2800 with
  | true =>
   rw [h2] at h
   cases h
   obtain rfl := eq_of_beq h2
   have q : (s == sA) = true := hp _ List.mem_cons_self
   obtain rfl := eq_of_beq q
   exact yo mixed (Vs hG (by simp only [YZ]; decide) (Gz [50, 56, 48, 48] (by decide))) WM (Eq.mp (by kernel_rfl) (mQ G) : wz Tryz.prog (DF G 2800 [50, 56, 48, 48]) 57 .auto [.i 2800, .str [50, 54, 48, 48]] (QJ true))
  | false =>
  rw [h2] at h
  cases h3 : n == 3600 with
  | true =>
   rw [h3] at h
   cases h
   obtain rfl := eq_of_beq h3
   have q : (s == sA || s == sB) = true := hp _ List.mem_cons_self
   rw [Bool.or_eq_true] at q
   rcases q with q | q
   ·obtain rfl := eq_of_beq q
    exact yo mixed (Vs hG (by simp only [YZ]; decide) (Gz [51, 54, 48, 48] (by decide))) WM (Eq.mp (by kernel_rfl) (NR G) : wz Tryz.prog (DF G 3600 [51, 54, 48, 48]) 57 .auto [.i 3600, .str [50, 54, 48, 48]] (QJ true))
   ·obtain rfl := eq_of_beq q
    exact yo mixed (Vs hG (by simp only [YZ]; decide) (Gz [51, 54, 48, 48] (by decide))) WM (Eq.mp (by kernel_rfl) (l8 G) : wz Tryz.prog (DF G 3600 [51, 54, 48, 48]) 57 .auto [.i 3600, .str [55, 50, 48, 49, 47, 50]] (QJ false))
  | false => simp_all
 ·cases h
theorem Jh  :
 True := by
 trivial
theorem i6  :
 True := by
 trivial
theorem R9 (x : AV) (h : KL x = true) : zc x (.i 0) := by
 unfold KL at h
 split at h
 ·exact zX _
 ·cases h
def Sg : List AV → Option (List zN × AV)
 | [.str s] => some ([.b (s == sA || s == sB)], .i 0)
 | _ => none
theorem ml : zQ Tryz.prog [] 56 Sg := by
 intro xs ps r h hp
 unfold Sg at h
 split at h
 ·rename_i s
  cases h
  have q : (s == sA || s == sB) = true := hp _ List.mem_cons_self
  rw [Bool.or_eq_true] at q
  rcases q with q | q
  ·obtain rfl := eq_of_beq q
   exact yo mixed TI R9 (Eq.mp (by kernel_rfl) Jh : wz Tryz.prog Gk 56 .auto [.str [50, 54, 48, 48]] KL)
  ·obtain rfl := eq_of_beq q
   exact yo mixed TI R9 (Eq.mp (by kernel_rfl) i6 : wz Tryz.prog Gk 56 .auto [.str [55, 50, 48, 49, 47, 50]] KL)
 ·cases h
def U1 : List AV → Option (List zN × AV)
 | [x_a, x_b] => some ([.b (ZH Sz x_a), .b (ZH Sz x_b), .p (O0 (ZR (α := Sz) x_a) = true), .p (O0 (ZR (α := Sz) x_b) = true)], .i (x9 (ZR (α := Sz) x_a) (ZR (α := Sz) x_b)))
 | _ => none
theorem nS (a : Sz) (b : Sz) (h1 : O0 a = true) (h2 : O0 b = true) :
 zB [AV.agg 3 (zp.enc a), AV.agg 3 (zp.enc b)] → bF (dK (Sz.w a * Sz.d a)) (bF (dK (Sz.w b * Sz.d b)) (bF (dK (Sz.w a * Sz.d a - Sz.w b * Sz.d b)) (bF (dK (Sz.w a - Sz.w b)) (kI ∧ NJ (fun (i : Nat) => AV.int (Sx.rowAt [fun (x : Nat) => aI (Sz.w a * Sz.d a - Sz.w b * Sz.d b), fun (x : Nat) => aI (Sz.w a - Sz.w b)] i 0)) 2 0 = x9 a b)))) := by
 delta bF dK kI aI
 intro _
 have g1 := ov h1
 have g2 := ov h2
 simp only [sS, true_and]
 refine ⟨⟨by omega, by omega⟩, ⟨by omega, by omega⟩, ⟨by omega, by omega⟩, ⟨by omega, by omega⟩, ?_⟩
 show (bif a.w * a.d - b.w * b.d == 0 then (bif a.w - b.w == 0 then (0 : Int) else a.w - b.w) else a.w * a.d - b.w * b.d) = x9 a b
 unfold x9
 grind
theorem RL (a : Sz) (b : Sz) (h1 : O0 a = true) (h2 : O0 b = true) : zS Tryz.prog [] 60 [yx a, yx b] (.i (x9 a b)) :=
 zV (T := Gj) (an := .auto) mixed TJ (Eq.mp (by kernel_rfl) (nS a b h1 h2))
theorem LJ : zQ Tryz.prog [] 60 U1 := by
 intro xs ps r h hp
 unfold U1 at h
 split at h
 ·skip
  rename_i x_a x_b
  cases h
  obtain ⟨q0, q1, q2, q3, -⟩ := Zx hp
  exact weaken (ys := [yx (ZR (α := Sz) x_a), yx (ZR (α := Sz) x_b)]) ⟨zH q0, zH q1, trivial⟩ (RL (ZR (α := Sz) x_a) (ZR (α := Sz) x_b) q2 q3)
 ·cases h
def l0 : List Row := [⟨50, 100, 400, 1000, 2500⟩, ⟨50, 150, 400, 1000, 3600⟩, ⟨75, 100, 600, 1500, 2800⟩]
noncomputable def TL (G : List (Nat × Obj)) : Tb := ((((wn G).plus 55 (Rq [Zp l0, .i 1, .i 1, .i 400, .i 1000] (.i 0))).plus 56 Sg).plus 57 Ux).plus 60 U1
noncomputable def DL (G : List (Nat × Obj)) : Tb := Tb.deepX Tryz.prog (TL G) [] 12
def IL (x : AV) : Bool :=
 match x with
 | .tup 2 vs => ZH Sz (vs 0) && decide (ZR (vs 0) = (⟨0, 50, 150⟩ : Sz)) && (match vs 1 with | .v (.int .i64 0) => true | _ => false)
 | _ => false
theorem mU (x : AV) (h : IL x = true) : zc x (.tup 2 (zT [yx (⟨0, 50, 150⟩ : Sz), .i 0])) := by
 unfold IL at h
 split at h
 ·rename_i vs
  simp only [Bool.and_eq_true, decide_eq_true_eq] at h
  refine ⟨rfl, Us fun i hi => ?_⟩
  match i, hi with
  | 0, _ =>
   show zc (vs 0) (yx (⟨0, 50, 150⟩ : Sz))
   exact h.1.2 ▸ zH h.1.1
  | 1, _ =>
   show zc (vs 1) (.i 0)
   have h1 := h.2
   split at h1
   ·rename_i ha; rw [ha]; exact zX _
   ·cases h1
 ·cases h
theorem mD {G : List (Nat × Obj)} (hG : zM G) : zY Tryz.prog (TL G) :=
 zY.plus (zY.plus (zY.plus (zY.plus zr (tz (zS.mono (lj l0 1 1 400 1000)))) (zQ.mono ml)) (Pp hG)) (zQ.mono LJ)
theorem Na (G : List (Nat × Obj)) :
 let q1 := (Array.getD (Value.cells (Value.agg #[Value.int .i64 iZ, Value.int .i64 iZ, Value.int .i64 iZ])) 0 undef); Wk [AV.xl false 5 3 fun i j => zp.enc (gD l0 i zp.dflt) j, aI iO, aI iO, aI (400 : Int), aI (1000 : Int)] [AV.xl false 5 3 fun i j => zp.enc (gD l0 i zp.dflt) j, aI iO, aI iO, aI (400 : Int), aI (1000 : Int)] ∧ (zU true (zn iZ (iZ + iO)) =
 true → O0 (ZR (AV.agg 3 fun (x : Nat) => if 1 < 1 then Sx.rowAt [zT [AV.v q1, aI (Row.w (gD l0 1 zp.dflt)), aI (Row.d (gD l0 1 zp.dflt))]] 1 (0 + x) else Sx.rowAt [zT [AV.v q1, aI (Row.w (gD l0 2 zp.dflt)), aI (Row.d (gD l0 2 zp.dflt))]] 0 (0 + x))) = true) ∧ (zU true (zn iZ (iZ + iO)) = true → O0 (ZR (AV.agg 3 fun (x : Nat) => if 0 < 1 then Sx.rowAt [zT [AV.v q1, aI (Row.w (gD l0 1 zp.dflt)), aI (Row.d
 (gD l0 1 zp.dflt))]] 0 (0 + x) else Sx.rowAt [zT [AV.v q1, aI (Row.w (gD l0 2 zp.dflt)), aI (Row.d (gD l0 2 zp.dflt))]] 0 (0 + x))) = true) ∧ True := by
 delta gD iZ iO aI
 dsimp only
 exact ⟨Wk.refl _, fun _ => rfl, fun _ => rfl, trivial⟩
theorem ji {G : List (Nat × Obj)} (hG : zM G) : zS Tryz.prog G 17 [Zp l0, .i 400, .i 1000, .str sA] (.tup 2 (zT [yx (⟨0, 50, 150⟩ : Sz), .i 0])) :=
 yo mixed (zY.deepX mixed (mD hG) [] 12) mU (Eq.mp (by kernel_rfl) (Na G) : wz Tryz.prog (DL G) 17 .auto [Zp l0, .i 400, .i 1000, .str sA] IL)
noncomputable def GA (G : List (Nat × Obj)) : Tb := ((((wn G).plus 55 (Rq [Zp l0, .i 75, .i 150, .i 400, .i 1000] (.i 0))).plus 56 Sg).plus 57 Ux).plus 58 (Rq [Zp l0, .i 75, .i 150, .i 400, .i 1000] (.i 3600))
theorem oT {G : List (Nat × Obj)} (hG : zM G) : zY Tryz.prog (GA G) :=
 zY.plus (zY.plus (zY.plus (zY.plus zr (tz (zS.mono (lj l0 75 150 400 1000)))) (zQ.mono ml)) (Pp hG)) (tz (zS.mono (sY l0 75 150 400 1000)))
theorem oh (G : List (Nat × Obj)) :
 Wk [AV.xl false 5 3 fun i j => zp.enc (gD l0 i zp.dflt) j, aI (75 : Int), aI (150 : Int), aI (400 : Int), aI (1000 : Int)] [AV.xl false 5 3 fun i j => zp.enc (gD l0 i zp.dflt) j, aI (75 : Int), aI (150 : Int), aI (400 : Int), aI (1000 : Int)] ∧ Wk [AV.xl false 5 3 fun i j => zp.enc (gD l0 i zp.dflt) j, aI (75 : Int), aI (150 : Int), aI (400 : Int), AV.v
 (Value.int .i64 (1000 : Int))] [AV.xl false 5 3 fun i j => zp.enc (gD l0 i zp.dflt) j, aI (75 : Int), aI (150 : Int), aI (400 : Int), aI (1000 : Int)] ∧ True := by
 delta gD aI
 exact ⟨Wk.refl _, Wk.refl _, trivial⟩
theorem nj {G : List (Nat × Obj)} (hG : zM G) : zS Tryz.prog G 15 [Zp l0, .i 75, .i 150, .i 400, .i 1000, .str sB] (.tup 2 (zT [.b false, .i 0])) :=
 yo mixed (oT hG) WM (Eq.mp (by kernel_rfl) (oh G) : wz Tryz.prog (GA G) 15 .auto [Zp l0, .i 75, .i 150, .i 400, .i 1000, .str sB] (QJ false))
def I5 (x : AV) : Bool := za Row x && decide (rowsOf x = l0)
theorem Su {x : AV} (h : I5 x = true) : zc x (Zp l0) := by
 simp only [I5, Bool.and_eq_true, decide_eq_true_eq] at h
 exact h.2 ▸ zi h.1
def mS : List AV → Option (List zN × AV)
 | [x, .v (.int .i64 w), .v (.int .i64 d), .v (.int .i64 s), .v (.int .i64 q)] => some ([.b (I5 x)], .tup 2 (zT [.i (yh l0 w d s q), .i (yt l0 w d s q)]))
 | _ => none
theorem HL : zQ Tryz.prog [] 16 mS := by
 intro xs ps r h hp
 unfold mS at h
 split at h
 ·cases h
  exact weaken (ys := [_, _, _, _, _]) ⟨Su (hp _ List.mem_cons_self), zX _, zX _, zX _, zX _, trivial⟩ (Mv l0 _ _ _ _)
 ·cases h
def Ly : List AV → Option (List zN × AV)
 | [x, .v (.int .i64 s), .v (.int .i64 q), .str a] => some ([.b (I5 x), .b (s == 400), .b (q == 1000), .b (a == sA)], .tup 2 (zT [yx (⟨0, 50, 150⟩ : Sz), .i 0]))
 | _ => none
theorem gY {G : List (Nat × Obj)} (hG : zM G) : zQ Tryz.prog G 17 Ly := by
 intro xs ps r h hp
 unfold Ly at h
 split at h
 ·rename_i x s q a
  cases h
  have h1 : s = 400 := eq_of_beq (hp _ (List.mem_cons_of_mem _ List.mem_cons_self))
  have h2 : q = 1000 := eq_of_beq (hp _ (List.mem_cons_of_mem _ (List.mem_cons_of_mem _ List.mem_cons_self)))
  have h3 : (a == sA) = true := hp _ (List.mem_cons_of_mem _ (List.mem_cons_of_mem _ (List.mem_cons_of_mem _ List.mem_cons_self)))
  obtain rfl := eq_of_beq h3
  subst h1 h2
  exact weaken (ys := [_, _, _, _]) ⟨Su (hp _ List.mem_cons_self), zX _, zX _, zX _, trivial⟩ (ji hG)
 ·cases h
def mK : List AV → Option (List zN × AV)
 | [x, .v (.int .i64 w), .v (.int .i64 d), .v (.int .i64 s), .v (.int .i64 q), .str a] => some ([.b (I5 x), .b (w == 75), .b (d == 150), .b (s == 400), .b (q == 1000), .b (a == sB)], .tup 2 (zT [.b false, .i 0]))
 | _ => none
theorem gW {G : List (Nat × Obj)} (hG : zM G) : zQ Tryz.prog G 15 mK := by
 intro xs ps r h hp
 unfold mK at h
 split at h
 ·rename_i x w d s q a
  cases h
  have k1 := List.mem_cons_of_mem (.b (I5 x)) (List.mem_cons_self (a := zN.b (w == 75)) (l := [.b (d == 150), .b (s == 400), .b (q == 1000), .b (a == sB)]))
  have h1 : w = 75 := eq_of_beq (hp _ k1)
  have h2 : d = 150 := eq_of_beq (hp (.b (d == 150)) (by simp))
  have h3 : s = 400 := eq_of_beq (hp (.b (s == 400)) (by simp))
  have h4 : q = 1000 := eq_of_beq (hp (.b (q == 1000)) (by simp))
  have h5 : (a == sB) = true := hp (.b (a == sB)) (by simp)
  obtain rfl := eq_of_beq h5
  subst h1 h2 h3 h4
  exact weaken (ys := [_, _, _, _, _, _]) ⟨Su (hp _ List.mem_cons_self), zX _, zX _, zX _, zX _, zX _, trivial⟩ (nj hG)
 ·cases h
noncomputable def G3 (G : List (Nat × Obj)) : Tb := (((wn G).plus 16 mS).plus 17 Ly).plus 15 mK
theorem OD {G : List (Nat × Obj)} (hG : zM G) : zY Tryz.prog (G3 G) :=
 zY.plus (zY.plus (zY.plus zr (zQ.mono HL)) (gY hG)) (gW hG)
theorem Nk (G : List (Nat × Obj)) :
 True := by
 trivial
theorem kW {G : List (Nat × Obj)} (hG : zM G) : zS Tryz.prog G 13 [] (.b true) :=
 yo mixed (OD hG) jp (Eq.mp (by kernel_rfl) (Nk G) : wz Tryz.prog (G3 G) 13 .auto [] Gy)
end Go.Te

namespace Go.Te
open Go Go.Sx Go.Proofs Go.Ar Go.Lib
set_option maxRecDepth 100000
set_option maxHeartbeats 4000000
def Z0 (a b : zh) : Nat := Nat.gcd (zt a).natAbs (zt b).natAbs
instance : Yt Big := ⟨fun c => by cases c; simp [zp.enc, zp.dec, zT, UZ, AV.bool], fun c => by cases c; simp [zp.enc, zp.ok, zT, Vy, isBool]⟩
theorem YL (f : Bool) (l : List Int) : ZR (AV.agg 2 (zT [AV.v (Value.bool f), AV.xl false 1 l.length fun i j => AV.v (Value.int IntKind.i64 (l.getD i 0))])) = (⟨f, l⟩ : Big) := Vz (⟨f, l⟩ : Big)
theorem y8 (f : Bool) (l : List Int) : ZH Big (AV.agg 2 (zT [AV.v (Value.bool f), AV.xl false 1 l.length fun i j => AV.v (Value.int IntKind.i64 (l.getD i 0))])) = true := Xo (⟨f, l⟩ : Big)
theorem U8 (x : Int) : (if -x > x then -x else x) = (x.natAbs : Int) := by split <;> omega
structure Wx where
 x : Int
 y : Int
structure vh where
 x : Nat
 y : Nat
def NM (a b : zh) : yW :=
 .two .auto (.two .auto (.two (.two .auto (.two .auto (.two (.two (.one (.loop Wx (fun σ z => [(7, .i z.x), (8, .i z.y)]) (fun σ z => []) 0 (fun σ z => Nat.gcd z.x.natAbs z.y.natAbs = Z0 a b ∧ z.x.natAbs ≤ 100000000000000000 ∧ z.y.natAbs ≤ 100000000000000000) (fun σ z => z.y.natAbs) .auto)) .auto) .auto))) (.two .auto (.two (.one (.loop vh (fun σ z => [(10, Zp (zw 1000000 z.x)), (11, Zp (zw 1000000 z.y))]) (fun σ z => []) 0 (fun σ z => Nat.gcd z.x z.y = Z0 a b ∧ (zw 1000000 z.x).length ≤ 100000000 ∧ (zw 1000000 z.y).length ≤ 100000000) (fun σ z => z.y) .auto)) .auto))))
noncomputable def GC (G : List (Nat × Obj)) : Tb := (((((j5 G).plus 102 VP).plus 103 ub).plus 104 vC).plus 105 u4).plus 106 ww
theorem Og {G : List (Nat × Obj)} (hG : zM G) : zY Tryz.prog (GC G) :=
 zY.plus (zY.plus (zY.plus (zY.plus (zY.plus (xx hG) (zQ.mono qT)) (zQ.mono Ph)) (zQ.mono R4)) (zQ.mono oV)) (zQ.mono uw)
theorem To {a : zh} (h : Zy a = true) : (zt a).natAbs < 10 ^ a.length := by
 by_cases hm : a.getD 0 0 = 45
 ·have h0 : 0 < a.length := by
   match a, h with
   | [], h => cases h
   | c :: r, _ => simp
  obtain ⟨_, hm1, _, hm4⟩ := xw h0 hm
  rw [hm4]
  rw [h] at hm1
  have hd : Zw (a.drop 1) = true := by
   cases hx : Zw (a.drop 1) with
   | true => rfl
   | false => rw [hx] at hm1; cases hm1
  have := Xh (l := a.drop 1) (List.all_eq_true.2 (ZX.1 hd).2.1)
  have h3 : 10 ^ (a.drop 1).length ≤ 10 ^ a.length := Nat.pow_le_pow_right (by omega) (by simp)
  omega
 ·obtain ⟨hp1, _, hp3⟩ := Yl (a := a) fun e => hm e.2
  rw [hp3]
  have := Xh (l := a) (List.all_eq_true.2 (ZX.1 (hp1.symm.trans h)).2.1)
  omega
theorem Hz {a : zh} (h : Zy a = true) (hl : a.length ≤ 100000000) : (zw 1000000 (zt a).natAbs).length ≤ 100000000 := by
 have h1 := To h
 refine Nat.le_trans (yg (b := 1000000) (k := a.length) (by omega) ?_) hl
 have h2 : 10 ^ a.length ≤ 1000000 ^ a.length := Nat.pow_le_pow_left (by omega) _
 exact_mod_cast Nat.lt_of_lt_of_le h1 h2
theorem fW {s : zh} (hs : Zy s = true) (h : leB (s.length : Int) 17 = true) : (zt s).natAbs ≤ 100000000000000000 := by
 have h1 := To hs
 have h2 : 10 ^ s.length ≤ 10 ^ 17 := Nat.pow_le_pow_right (by omega) (by have := (zF _ _).1 h; omega)
 omega
theorem Mf (G : List (Nat × Obj)) (a b : zh) (hla : a.length ≤ 100000000) (hlb : b.length ≤ 100000000) :
 zB [AV.str a, AV.str b] → lN a ≤ nM ∧ lN b ≤ nM ∧ zZ (zI a b != iZ) (j2 ∧ (True ∧ bA #[] = bif zI a b != iZ then [] else itoa (cI (Z0 a b))) ∧ kI ∧ zI a b = zI a b) (Zy a = true ∧ lN a ≤ nM ∧ Zy b = true ∧ lN b ≤ nM ∧ zZ (leB (lZ a) (17 : Int) && leB (lZ b) (17 : Int)) ((∃ (z : Wx), ((Nat.gcd (Int.natAbs (Wx.x z)) (Int.natAbs (Wx.y z)) = Z0 a b ∧
 Int.natAbs (Wx.x z) ≤ 100000000000000000 ∧ Int.natAbs (Wx.y z) ≤ 100000000000000000) ∧ (kI ∧ (bif leB (lZ a) (17 : Int) then zt a else iZ) = Wx.x z) ∧ kI ∧ (bif leB (lZ a) (17 : Int) && leB (lZ b) (17 : Int) then zt b else iZ) = Wx.y z) ∧ True) ∧ ∀ (z : Wx), let q1 := (if -Wx.x z > Wx.x z then -Wx.x z else Wx.x z); Nat.gcd (Int.natAbs (Wx.x z)) (Int.natAbs (Wx.y z)) = Z0 a b ∧ Int.natAbs (Wx.x z) ≤ 100000000000000000 ∧ Int.natAbs (Wx.y z) ≤ 100000000000000000 → zZ (Wx.y z
 != iZ) (bF (DB.db (Wx.y z ≠ iZ)) (∃ (z' : Wx), (((Nat.gcd (Int.natAbs (Wx.x z')) (Int.natAbs (Wx.y z')) = Z0 a b ∧ Int.natAbs (Wx.x z') ≤ 100000000000000000 ∧ Int.natAbs (Wx.y z') ≤ 100000000000000000) ∧ Int.natAbs (Wx.y z') < Int.natAbs (Wx.y z)) ∧ (kI ∧ Wx.y z = Wx.x z') ∧ kI ∧ Int.tmod (Wx.x z) (Wx.y z) = Wx.y z') ∧ True)) (bF (dK (-Wx.x z)) (((iN ≤ if -Wx.x z > Wx.x z then -Wx.x z else Wx.x z) ∧ q1 ≤ iX) ∧ j2 ∧ (True
 ∧ itoa q1 = bif zI a b != iZ then [] else itoa (cI (Z0 a b))) ∧ kI ∧ iZ = zI a b))) (Zy a = true ∧ lN a ≤ nM ∧ Zy b = true ∧ lN b ≤ nM ∧ (∃ (z : vh), ((Nat.gcd (vh.x z) (vh.y z) = Z0 a b ∧ lN (zw 1000000 (vh.x z)) ≤ 100000000 ∧ lN (zw 1000000 (vh.y z)) ≤ 100000000) ∧ zc (xI (zw 1000000 (Int.natAbs (zt a)))) (AV.xl false 1 (lN (zw 1000000 (vh.x
 z))) fun i j => aI (gD (zw 1000000 (vh.x z)) i zp.dflt)) ∧ (false = true → false = true) ∧ 1 = 1 ∧ lN (zw 1000000 (vh.y z)) = lN (zw 1000000 (Int.natAbs (zt b))) ∧ ∀ (i j : Nat), i < lN (zw 1000000 (Int.natAbs (zt b))) → j < 1 → kI ∧ gD (zw 1000000 (Int.natAbs (zt b))) i zp.dflt = gD (zw 1000000 (vh.y z)) i zp.dflt) ∧ True) ∧ ∀ (z : vh), let q2 := (AV.xl false 1 (lN (zw 1000000 (vh.x z))) fun i j => aI (gD (zw 1000000 (vh.x z)) i
 zp.dflt)); let q3 := (xI (zw 1000000 (vh.y z))); let q4 := (zv q2); let q5 := (zv q3); let q6 := (zw 1000000 (Int.toNat (zW (1000000 : Int) q4) % Int.toNat (zW (1000000 : Int) q5))); let q7 := (AV.agg 2 (zT [AV.v (Value.bool false), xI (zw 1000000 (vh.x z))])); let q9 := (ZR q7); let q8 := (Big.l q9); Nat.gcd (vh.x z) (vh.y z) = Z0 a b ∧ List.length
 (zw 1000000 (vh.x z)) ≤ 100000000 ∧ lN (zw 1000000 (vh.y z)) ≤ 100000000 → zZ (zn iZ (lZ (zw 1000000 (vh.y z)))) (bF (za Int q2) (bF (za Int q3) ((∀ (x : Int), List.Mem x q4 → iZ ≤ x ∧ x < (1000000 : Int)) ∧ (∀ (x : Int), List.Mem x q5 → iZ ≤ x ∧ x < (1000000 : Int)) ∧ zm q5 = zv q3 ∧ lN q5 ≠ 0 ∧ lN q4 ≤ 100000000 ∧ lN q5 ≤ 100000000 ∧ ∃ (z' : vh), (((Nat.gcd (vh.x z') (vh.y z') = Z0 a b ∧ lN (zw 1000000 (vh.x z')) ≤ 100000000 ∧ lN (zw 1000000 (vh.y z'))
 ≤ 100000000) ∧ vh.y z' < vh.y z) ∧ zc q3 (xI (zw 1000000 (vh.x z'))) ∧ (false = true → false = true) ∧ 1 = 1 ∧ lN (zw 1000000 (vh.y z')) = lN q6 ∧ ∀ (i j : Nat), i < lN q6 → j < 1 → kI ∧ gD q6 i zp.dflt = gD (zw 1000000 (vh.y z')) i zp.dflt) ∧ True))) (bF (ZH Big q7) ((∀ (x : Int), List.Mem x q8 → iZ ≤ x ∧ x < (1000000 : Int)) ∧ zm q8 = Big.l q9 ∧ lN q8 ≤ 100000000 ∧ (Big.neg q9
 = true → lN q8 ≠ 0) ∧ j2 ∧ (True ∧ itoa (bif Big.neg q9 then -zW (1000000 : Int) q8 else zW (1000000 : Int) q8) = bif zI a b != iZ then [] else itoa (cI (Z0 a b))) ∧ kI ∧ iZ = zI a b)))) := by
 delta bF dK bA xI nM cI kI j2 lZ lN gD iZ iX iN aI
 dsimp only
 intro hb
 have e0 : (zp.dflt : Int) = 0 := rfl
 simp only [↓ZK, ↓ZT, row_one]
 simp only [sS, dS, e0]
 refine ⟨by omega, by omega, fun hE => ⟨rfl, by rw [bne_iff_ne.2 hE]; rfl⟩, fun hE => ?_⟩
 obtain ⟨hA, hB⟩ := ym hE
 have ia : Zy a = true := (yS.1 hA).1
 have ib : Zy b = true := (yS.1 hB).1
 have la := Hz ia hla
 have lb := Hz ib hlb
 simp only [hE, bne_self_eq_false, cond_false, YL, y8, Yo, U8]
 refine ⟨ia, by omega, ib, by omega, ?_⟩
 refine zu.2 ⟨fun c => ?_, fun c => ⟨ia, by omega, ib, by omega, ?_⟩⟩
 ·rw [Bool.and_eq_true] at c
  rw [c.1, c.2]
  simp only [cond_true, Bool.and_self]
  refine ⟨⟨⟨zt a, zt b⟩, ⟨rfl, fW ia c.1, fW ib c.2⟩, rfl, rfl⟩, fun z ⟨z1, z2, z3⟩ => ⟨fun hy => ⟨hy, ⟨z.y, z.x.tmod z.y⟩, ⟨⟨?_, z3, ?_⟩, ?_⟩, rfl, rfl⟩, fun hy => ?_⟩⟩
  ·rw [Int.natAbs_tmod, ← wy (y := z.y.natAbs) (by omega), z1]
  ·rw [Int.natAbs_tmod]
   have : z.x.natAbs % z.y.natAbs ≤ z.x.natAbs := Nat.mod_le _ _
   omega
  ·rw [Int.natAbs_tmod]
   exact Nat.mod_lt _ (by omega)
  ·rw [hy, Int.natAbs_zero, Nat.gcd_zero_right] at z1
   rw [z1] at z2 ⊢
   exact ⟨⟨by omega, by omega⟩, ⟨by omega, by omega⟩, rfl, rfl, trivial⟩
 ·refine ⟨⟨⟨(zt a).natAbs, (zt b).natAbs⟩, ⟨rfl, la, lb⟩, zX _, fun h => h, rfl, fun _ _ _ _ => rfl⟩, fun z ⟨z1, z2, z3⟩ => ⟨fun hy => ?_, fun hy => ?_⟩⟩
  ·have hy0 : z.y ≠ 0 := fun e => by rw [e, Zj] at hy; exact absurd hy (by decide)
   simp only [vL, Int.toNat_natCast]
   have hm : z.x % z.y < z.y := Nat.mod_lt _ (by omega)
   have hlen := ZM (b := 1000000) (m := z.x % z.y) (n := z.y) (by omega) (by omega)
   exact ⟨TV _, TV _, XU (b := 1000000) (by omega) _, by omega, z2, z3, ⟨z.y, z.x % z.y⟩, ⟨⟨by rw [← wy hy0]; exact z1, z3, by simp only; omega⟩, hm⟩, zX _, fun h => h, rfl, fun _ _ _ _ => rfl⟩
  ·have hy0 := yK (b := 1000000) (n := z.y) (by omega) (by omega)
   rw [hy0, Nat.gcd_zero_right] at z1
   simp only [vL]
   rw [z1] at z2 ⊢
   exact ⟨TV _, XU (b := 1000000) (by omega) _, z2, fun h => (by cases h), rfl, rfl, trivial⟩
def Hq (a b : zh) : AV := .tup 2 (zT [.str (bif zI a b != 0 then [] else itoa (Z0 a b : Int)), .i (zI a b)])
def Uw : List AV → Option (List zN × AV)
 | [.str a, .str b] => some ([.p (a.length ≤ 100000000), .p (b.length ≤ 100000000)], Hq a b)
 | _ => none
theorem km {G : List (Nat × Obj)} (hG : zM G) (a b : zh) (hla : a.length ≤ 100000000) (hlb : b.length ≤ 100000000) : zS Tryz.prog G 49 [.str a, .str b] (Hq a b) :=
 zV (T := GC G) (an := NM a b) mixed (Og hG) (Eq.mp (by kernel_rfl) (Mf G a b hla hlb))
theorem P2 {G : List (Nat × Obj)} (hG : zM G) : zQ Tryz.prog G 49 Uw := by
 intro xs ps r h hp
 unfold Uw at h
 split at h
 ·rename_i a b
  cases h
  exact km hG a b (hp _ List.mem_cons_self) (hp _ (List.mem_cons_of_mem _ List.mem_cons_self))
 ·cases h
end Go.Te

namespace Go.Proofs
open Go.Shelf
def Tryz.lays160_ren : Go.Shelf.Ren := ⟨fun | 160 => 238 | 232 => 258 | 231 => 257 | 227 => 259 | 234 => 261 | 233 => 260 | 236 => 263 | 235 => 262 | 228 => 272 | 271 => 274 | 151 => 273 | 197 => 244 | 120 => 279 | 152 => 278 | 260 => 267 | 137 => 116 | 119 => 281 | 224 => 182 | 225 => 181 | 217 => 174 | 266 => 218 | n => n, fun | 9 => 9 | 4 => 4 | 3 => 3 | 5 => 5 | 117 => 268 | 116 => 267 | 0 => 0 | 124 => 271 | 21 => 21 | 105 => 252 | 46 => 155 | 119 => 284 | 139 => 287 | 138 => 286 | n => n, fun | 3 => 4 | 4 => 5 | n => n⟩
theorem Tryz.lays160 : Go.Proofs.Lays.n160 Tryz.prog Tryz.lays160_ren := {
 mixed := by kernel_rfl
 f119 := Tryz.func281.trans (congrArg some (by kernel_rfl))
 f120 := Tryz.func279.trans (congrArg some (by kernel_rfl))
 f137 := Tryz.func116.trans (congrArg some (by kernel_rfl))
 f151 := Tryz.func273.trans (congrArg some (by kernel_rfl))
 f152 := Tryz.func278.trans (congrArg some (by kernel_rfl))
 f160 := Tryz.func238.trans (congrArg some (by kernel_rfl))
 f197 := Tryz.func244.trans (congrArg some (by kernel_rfl))
 f217 := Tryz.func174.trans (congrArg some (by kernel_rfl))
 f224 := Tryz.func182.trans (congrArg some (by kernel_rfl))
 f225 := Tryz.func181.trans (congrArg some (by kernel_rfl))
 f227 := Tryz.func259.trans (congrArg some (by kernel_rfl))
 f228 := Tryz.func272.trans (congrArg some (by kernel_rfl))
 f231 := Tryz.func257.trans (congrArg some (by kernel_rfl))
 f232 := Tryz.func258.trans (congrArg some (by kernel_rfl))
 f233 := Tryz.func260.trans (congrArg some (by kernel_rfl))
 f234 := Tryz.func261.trans (congrArg some (by kernel_rfl))
 f235 := Tryz.func262.trans (congrArg some (by kernel_rfl))
 f236 := Tryz.func263.trans (congrArg some (by kernel_rfl))
 f260 := Tryz.func267.trans (congrArg some (by kernel_rfl))
 f266 := Tryz.func218.trans (congrArg some (by kernel_rfl))
 f271 := Tryz.func274.trans (congrArg some (by kernel_rfl))
 t0 := Tryz.underlying0
 a0 := Tryz.isAgg0
 z0 := Tryz.sizeOf0
 v0 := Tryz.zeroValue0
 t3 := Tryz.underlying3
 a3 := Tryz.isAgg3
 z3 := Tryz.sizeOf3
 v3 := Tryz.zeroValue3
 t4 := Tryz.underlying4
 a4 := Tryz.isAgg4
 z4 := Tryz.sizeOf4
 v4 := Tryz.zeroValue4
 t5 := Tryz.underlying5
 a5 := Tryz.isAgg5
 z5 := Tryz.sizeOf5
 v5 := Tryz.zeroValue5
 t9 := Tryz.underlying9
 a9 := Tryz.isAgg9
 z9 := Tryz.sizeOf9
 v9 := Tryz.zeroValue9
 t21 := Tryz.underlying21
 a21 := Tryz.isAgg21
 z21 := Tryz.sizeOf21
 v21 := Tryz.zeroValue21
 t46 := Tryz.underlying155
 a46 := Tryz.isAgg155
 z46 := Tryz.sizeOf155
 v46 := Tryz.zeroValue155
 t105 := Tryz.underlying252
 a105 := Tryz.isAgg252
 z105 := Tryz.sizeOf252
 v105 := Tryz.zeroValue252
 t116 := Tryz.underlying267
 a116 := Tryz.isAgg267
 z116 := Tryz.sizeOf267
 t117 := Tryz.underlying268
 a117 := Tryz.isAgg268
 z117 := Tryz.sizeOf268
 v117 := Tryz.zeroValue268
 t119 := Tryz.underlying284
 a119 := Tryz.isAgg284
 z119 := Tryz.sizeOf284
 t124 := Tryz.underlying271
 a124 := Tryz.isAgg271
 z124 := Tryz.sizeOf271
 v124 := Tryz.zeroValue271
 t138 := Tryz.underlying286
 a138 := Tryz.isAgg286
 z138 := Tryz.sizeOf286
 v138 := Tryz.zeroValue286
 t139 := Tryz.underlying287
 a139 := Tryz.isAgg287
 z139 := Tryz.sizeOf287
 v139 := Tryz.zeroValue287
 g3 := by kernel_rfl
 g4 := by kernel_rfl }
def Tryz.lays172_ren : Go.Shelf.Ren := ⟨fun | 172 => 119 | 244 => 177 | 245 => 178 | 247 => 220 | 279 => 221 | 280 => 222 | 281 => 223 | 282 => 224 | 287 => 245 | 316 => 246 | 171 => 71 | 205 => 247 | 321 => 268 | 322 => 269 | 243 => 121 | 246 => 180 | 283 => 225 | 284 => 226 | 285 => 227 | 286 => 228 | 129 => 173 | 317 => 248 | 318 => 249 | 319 => 250 | 320 => 251 | 337 => 270 | 338 => 271 | n => n, fun | 9 => 9 | 3 => 3 | 75 => 110 | 76 => 112 | 4 => 4 | 5 => 5 | 167 => 233 | 37 => 106 | 0 => 0 | 85 => 234 | 2 => 2 | 168 => 236 | 53 => 203 | 175 => 254 | 46 => 155 | 210 => 257 | 127 => 161 | 145 => 278 | 143 => 276 | 21 => 21 | 171 => 239 | 173 => 241 | 212 => 260 | 51 => 201 | 20 => 20 | 213 => 261 | 232 => 288 | 233 => 289 | 80 => 116 | n => n, fun | 15 => 1 | 16 => 2 | 17 => 3 | 18 => 6 | 19 => 7 | n => n⟩
theorem Tryz.lays172 : Go.Proofs.Lays.n172 Tryz.prog Tryz.lays172_ren := {
 mixed := by kernel_rfl
 f129 := Tryz.func173.trans (congrArg some (by kernel_rfl))
 f171 := Tryz.func71.trans (congrArg some (by kernel_rfl))
 f172 := Tryz.func119.trans (congrArg some (by kernel_rfl))
 f205 := Tryz.func247.trans (congrArg some (by kernel_rfl))
 f243 := Tryz.func121.trans (congrArg some (by kernel_rfl))
 f244 := Tryz.func177.trans (congrArg some (by kernel_rfl))
 f245 := Tryz.func178.trans (congrArg some (by kernel_rfl))
 f246 := Tryz.func180.trans (congrArg some (by kernel_rfl))
 f247 := Tryz.func220.trans (congrArg some (by kernel_rfl))
 f279 := Tryz.func221.trans (congrArg some (by kernel_rfl))
 f280 := Tryz.func222.trans (congrArg some (by kernel_rfl))
 f281 := Tryz.func223.trans (congrArg some (by kernel_rfl))
 f282 := Tryz.func224.trans (congrArg some (by kernel_rfl))
 f283 := Tryz.func225.trans (congrArg some (by kernel_rfl))
 f284 := Tryz.func226.trans (congrArg some (by kernel_rfl))
 f285 := Tryz.func227.trans (congrArg some (by kernel_rfl))
 f286 := Tryz.func228.trans (congrArg some (by kernel_rfl))
 f287 := Tryz.func245.trans (congrArg some (by kernel_rfl))
 f316 := Tryz.func246.trans (congrArg some (by kernel_rfl))
 f317 := Tryz.func248.trans (congrArg some (by kernel_rfl))
 f318 := Tryz.func249.trans (congrArg some (by kernel_rfl))
 f319 := Tryz.func250.trans (congrArg some (by kernel_rfl))
 f320 := Tryz.func251.trans (congrArg some (by kernel_rfl))
 f321 := Tryz.func268.trans (congrArg some (by kernel_rfl))
 f322 := Tryz.func269.trans (congrArg some (by kernel_rfl))
 f337 := Tryz.func270.trans (congrArg some (by kernel_rfl))
 f338 := Tryz.func271.trans (congrArg some (by kernel_rfl))
 t0 := Tryz.underlying0
 a0 := Tryz.isAgg0
 z0 := Tryz.sizeOf0
 v0 := Tryz.zeroValue0
 t2 := Tryz.underlying2
 a2 := Tryz.isAgg2
 z2 := Tryz.sizeOf2
 v2 := Tryz.zeroValue2
 t3 := Tryz.underlying3
 a3 := Tryz.isAgg3
 z3 := Tryz.sizeOf3
 v3 := Tryz.zeroValue3
 t4 := Tryz.underlying4
 a4 := Tryz.isAgg4
 z4 := Tryz.sizeOf4
 v4 := Tryz.zeroValue4
 t5 := Tryz.underlying5
 a5 := Tryz.isAgg5
 z5 := Tryz.sizeOf5
 v5 := Tryz.zeroValue5
 t9 := Tryz.underlying9
 a9 := Tryz.isAgg9
 z9 := Tryz.sizeOf9
 v9 := Tryz.zeroValue9
 t20 := Tryz.underlying20
 a20 := Tryz.isAgg20
 z20 := Tryz.sizeOf20
 v20 := Tryz.zeroValue20
 t21 := Tryz.underlying21
 a21 := Tryz.isAgg21
 z21 := Tryz.sizeOf21
 v21 := Tryz.zeroValue21
 t37 := Tryz.underlying106
 a37 := Tryz.isAgg106
 z37 := Tryz.sizeOf106
 v37 := Tryz.zeroValue106
 t46 := Tryz.underlying155
 a46 := Tryz.isAgg155
 z46 := Tryz.sizeOf155
 v46 := Tryz.zeroValue155
 t51 := Tryz.underlying201
 a51 := Tryz.isAgg201
 z51 := Tryz.sizeOf201
 v51 := Tryz.zeroValue201
 t53 := Tryz.underlying203
 a53 := Tryz.isAgg203
 z53 := Tryz.sizeOf203
 v53 := Tryz.zeroValue203
 t75 := Tryz.underlying110
 a75 := Tryz.isAgg110
 z75 := Tryz.sizeOf110
 v75 := Tryz.zeroValue110
 t76 := Tryz.underlying112
 a76 := Tryz.isAgg112
 z76 := Tryz.sizeOf112
 v76 := Tryz.zeroValue112
 t85 := Tryz.underlying234
 a85 := Tryz.isAgg234
 z85 := Tryz.sizeOf234
 v85 := Tryz.zeroValue234
 t127 := Tryz.underlying161
 a127 := Tryz.isAgg161
 z127 := Tryz.sizeOf161
 v127 := Tryz.zeroValue161
 t143 := Tryz.underlying276
 a143 := Tryz.isAgg276
 z143 := Tryz.sizeOf276
 v143 := Tryz.zeroValue276
 t145 := Tryz.underlying278
 a145 := Tryz.isAgg278
 z145 := Tryz.sizeOf278
 v145 := Tryz.zeroValue278
 t167 := Tryz.underlying233
 a167 := Tryz.isAgg233
 z167 := Tryz.sizeOf233
 v167 := Tryz.zeroValue233
 t168 := Tryz.underlying236
 a168 := Tryz.isAgg236
 z168 := Tryz.sizeOf236
 v168 := Tryz.zeroValue236
 t171 := Tryz.underlying239
 a171 := Tryz.isAgg239
 z171 := Tryz.sizeOf239
 v171 := Tryz.zeroValue239
 t173 := Tryz.underlying241
 a173 := Tryz.isAgg241
 z173 := Tryz.sizeOf241
 v173 := Tryz.zeroValue241
 t175 := Tryz.underlying254
 a175 := Tryz.isAgg254
 z175 := Tryz.sizeOf254
 v175 := Tryz.zeroValue254
 t210 := Tryz.underlying257
 a210 := Tryz.isAgg257
 z210 := Tryz.sizeOf257
 v210 := Tryz.zeroValue257
 t212 := Tryz.underlying260
 a212 := Tryz.isAgg260
 z212 := Tryz.sizeOf260
 v212 := Tryz.zeroValue260
 t213 := Tryz.underlying261
 a213 := Tryz.isAgg261
 z213 := Tryz.sizeOf261
 t232 := Tryz.underlying288
 a232 := Tryz.isAgg288
 z232 := Tryz.sizeOf288
 v232 := Tryz.zeroValue288
 t233 := Tryz.underlying289
 a233 := Tryz.isAgg289
 z233 := Tryz.sizeOf289
 v233 := Tryz.zeroValue289
 g15 := by kernel_rfl
 g16 := by kernel_rfl
 g17 := by kernel_rfl
 g18 := by kernel_rfl
 g19 := by kernel_rfl }
open Go.RowKit in
theorem Tryz.strconv_Atoi (s : ByteArray) (n : Int) (hl : s.size ≤ 18) (h : Lib.atoi s.data.toList = some n) (w : World) :
  Calls Tryz.prog 119 #[.string s] w fun e w' => e = .returned (.tuple #[.int .i64 n, .nilIface]) ∧ ∃ t, w' = Lib.bytesWorld w 5 t := Any.strconv_Atoi Tryz.lays172 s n hl h w
def Tryz.lays206_ren : Go.Shelf.Ren := ⟨fun | 206 => 151 | n => n, fun | 9 => 9 | 4 => 4 | 3 => 3 | n => n, fun | n => n⟩
theorem Tryz.lays206 : Go.Proofs.Lays.n206 Tryz.prog Tryz.lays206_ren := {
 mixed := by kernel_rfl
 f206 := Tryz.func151.trans (congrArg some (by kernel_rfl))
 t3 := Tryz.underlying3
 a3 := Tryz.isAgg3
 z3 := Tryz.sizeOf3
 v3 := Tryz.zeroValue3
 t4 := Tryz.underlying4
 a4 := Tryz.isAgg4
 z4 := Tryz.sizeOf4
 v4 := Tryz.zeroValue4
 t9 := Tryz.underlying9
 a9 := Tryz.isAgg9
 z9 := Tryz.sizeOf9
 v9 := Tryz.zeroValue9 }
open Go.RowKit Go.Lib in
theorem Tryz.stringslite_HasPrefix (s p : ByteArray) (w : World) :
  Calls Tryz.prog 151 #[.string s, .string p] w fun e w' => e = .returned (.bool (Lib.hasPrefix s.data.toList p.data.toList)) ∧ w' = w := Any.stringslite_HasPrefix Tryz.lays206 s p w
end Go.Proofs
