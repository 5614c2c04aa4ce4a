/- kingpostref02: Check. -/
import Derived.Test.YtgpbohfbhfbelaaGreatDoorTkXc
import Derived.Test.YtgpbohfbhfbelaaGreatDoorTkIk
import Derived.Test.YtgpbohfbhfbelaaGreatDoorTkQc
import Derived.Shelf.SlLaysF0
import Derived.Shelf.SlSortCmp.NoneTotal
import Derived.Test.YtgpbohfbhfbelaaGreatDoorSxSo
import Derived.Test.YtgpbohfbhfbelaaGreatDoorTkS
import Derived.Test.YtgpbohfbhfbelaaGreatDoorProg
import Derived.Test.YtgpbohfbhfbelaaGreatDoorTkIf
import Derived.Test.YtgpbohfbhfbelaaGreatDoorTkWa
set_option linter.unusedSimpArgs false
set_option linter.unusedVariables false
namespace Go.Te
open Go Go.Sx Go.Proofs Go.Ar Go.Lib
set_option maxRecDepth 100000
set_option maxHeartbeats 4000000
noncomputable def EZ (G : List (Nat × Obj)) : Tb := (((((Vw G).plus 59 wY).plus 60 Vz).plus 62 W8).plus 61 S9).plus 63 rQ
theorem nT {G : List (Nat × Obj)} (hG : zh G) : zZ Tryz.prog (EZ G) :=
 zZ.plus (zZ.plus (zZ.plus (zZ.plus (zZ.plus zq (zQ.mono uk)) (zQ.mono Pq)) (zQ.mono SK)) (zQ.mono j9)) (KJ hG)
def XA : List AV → Option (List zn × AV)
 | [.str a] => some ([.p (a.length ≤ 100000000)], .i (zN a))
 | _ => none
theorem P0 (G : List (Nat × Obj)) (a : List UInt8) (hl : a.length ≤ 100000000) :
 let q1 := (!zS false !z6 (zp (zu a)) || zS false !z6 (zp (zu a))); let q3 := (zS false !z6 (zp (zu a)) && zS true (zk (zu a))); let q2 := (!q3 || zS false !z6 (zp (zu a)) && zS true (zk (zu a))); let q5 := (ByteArray.data (ByteArray.mk #[(48 : UInt8)])); let q4 := (bif !z6 (zg (zu a)) then true else zg (zu a) == Array.toList q5); let q8 := (ByteArray.data (ByteArray.mk #[(49 : UInt8)])); let q7 := (bif !z6 (zp (zu a)) then true else bif zk (zu a) then bif bif !z6 (zg (zu a)) then true else zg (zu a) == Array.toList
 q5 then true else zg (zu a) == Array.toList q8 else false); let q6 := (!zS false q7 || zS false q7); let q9 := (kI ∧ (11 : Int) = zN a); let q11 := (zH (300 : Int) (lZ (zp (zu a)))); let q10 := (!zS false q11 || zS false q11); let q12 := (kI ∧ iZ = zN a); let q14 := (leB (lZ (zp (zu a))) (9 : Int)); let q13 := (!zS true q14 || zS true q14); ZY [AV.str a] → lN a ≤ nM ∧ lN (zp (zu a)) ≤ nM ∧ bF q1 (bF q2 ((q3 = true → lN (zg (zu a)) ≤
 nM) ∧ bF q2 (bF q2 (bF (!(zS false !z6 (zp (zu a)) && zS true (zk (zu a)) && zS false !z6 (zg (zu a))) || zS false !z6 (zp (zu a)) && zS true (zk (zu a)) && zS false !z6 (zg (zu a))) (bF q2 (bF (!q3 || (!!!z6 (zg (zu a)) || zS false !z6 (zp (zu a)) && zS true (zk (zu a)) && zS false !z6 (zg (zu a)))) (bF q2 (zY (!(zS false !z6 (zp (zu a)) && zS true (zk (zu a)) && zS false q4) || zS false !z6 (zp (zu a)) && zS true (zk (zu a)) && zS false q4)
 (bF q2 (bF (!q3 || ((!!bif !z6 (zg (zu a)) then true else zg (zu a) == Array.toList q5) || zS false !z6 (zp (zu a)) && zS true (zk (zu a)) && zS false q4)) (bF q1 (bF (!zS false !z6 (zp (zu a)) || (!zk (zu a) || zS false !z6 (zp (zu a)) && zS true (zk (zu a)))) (bF (!!!z6 (zp (zu a)) || zS false !z6 (zp (zu a))) (bF q6 (bF (!(zS false q7 && zS true (zG a)) || zS false q7 && zS true (zG a)) (bF q6 (bF (!zS false q7 || (!zG a || zS false q7 && zS true (zG a))) (zY
 ((!!bif !z6 (zp (zu a)) then true else bif zk (zu a) then bif bif !z6 (zg (zu a)) then true else zg (zu a) == Array.toList q5 then true else zg (zu a) == Array.toList q8 else false) || zS false q7) (zY (bif bif !z6 (zp (zu a)) then true else bif zk (zu a) then bif bif !z6 (zg (zu a)) then true else zg (zu a) == Array.toList q5 then true else zg (zu a) == Array.toList q8 else false then true else bif zG a then zp (zu a) == Array.toList q5 else false) q9 (bF q10 (bF q10 (bF (!!zH (300 : Int) (lZ (zp (zu
 a))) || zS false q11) (zY (bif zH (300 : Int) (lZ (zp (zu a))) then true else zH (300 : Int) (lZ (zg (zu a)))) (kI ∧ (4 : Int) = zN a) (zY (!zk (zu a)) q12 (bF q13 (bF q13 (bF (!leB (lZ (zp (zu a))) (9 : Int) || zS true q14) (zY (bif leB (lZ (zp (zu a))) (9 : Int) then leB (lZ (zg (zu a))) (9 : Int) else false) (z6 (zp (zu a)) = true ∧ lN (zp (zu a)) ≤ 18 ∧ z6 (zg (zu a)) = true ∧ lN (zg
 (zu a)) ≤ 18 ∧ (iZ ≤ (cI (zm (zp (zu a)))) ∧ (cI (zm (zp (zu a)))) ≤ iX) ∧ (iZ ≤ (cI (zm (zg (zu a)))) ∧ (cI (zm (zg (zu a)))) ≤ iX) ∧ zY ((↑(Nat.gcd (Int.toNat (cI (zm (zp (zu a))))) (Int.toNat (cI (zm (zg (zu a)))))) : Int) != iO) q9 q12) (lN (zp (zu a)) ≤ 100000000 ∧ lN (zg (zu a)) ≤ 100000000 ∧ zY (!(bif zI (zp (zu a)) (zg (zu a)) != iZ then [] else itoa (cI (Zc (zp (zu a)) (zg (zu a))))) ==
 Array.toList q8) q9 q12))))))))))) False)))))))))) False)))))))) := by
 delta bF nM cI kI lZ lN iZ iO iX
 dsimp only
 intro hb
 simp only [sS, dS, Za]
 have lo := X6 a
 have ln := Ya (zu a)
 have ld := Vp (zu a)
 have hF : XQ a = (z6 (zp (zu a)) && !(zG a && zp (zu a) == [48]) && (!zk (zu a) || z6 (zg (zu a)) && !(zg (zu a) == [48]) && !(zg (zu a) == [49]))) := rfl
 have eB := @VE a
 have eL := @sT a
 have eG := @VJ a
 have eI := @tO a
 generalize hn : zp (zu a) = n at *
 generalize hd : zg (zu a) = d at *
 generalize zk (zu a) = sl at *
 generalize zG a = m at *
 refine ⟨by omega, by omega, fun _ => by omega, ?_⟩
 refine Wt (by cases z6 n <;> cases sl <;> cases z6 d <;> rfl) ?_
 refine Wt (by cases z6 n <;> cases sl <;> cases z6 d <;> cases d == [48] <;> rfl) ?_
 refine Wt (by cases z6 n <;> cases sl <;> rfl) ?_
 refine Wt (by cases z6 n <;> cases sl <;> cases z6 d <;> cases d == [48] <;> cases d == [49] <;> cases m <;> rfl) ?_
 refine zv.2 ⟨fun c => (eB ?_).symm, fun c => ?_⟩
 ·rw [hF]
  revert c
  cases z6 n <;> cases sl <;> cases z6 d <;> cases d == [48] <;> cases d == [49] <;> cases m <;> cases n == [48] <;> decide
 have hT : XQ a = true := by
  rw [hF]
  revert c
  cases z6 n <;> cases sl <;> cases z6 d <;> cases d == [48] <;> cases d == [49] <;> cases m <;> cases n == [48] <;> decide
 refine zv.2 ⟨fun c2 => (eL hT ?_).symm, fun c2 => ?_⟩
 ·rw [Bool.or_eq_true, zR, zR] at c2; omega
 have h3 : n.length ≤ 300 ∧ d.length ≤ 300 := by
  rw [Bool.or_eq_false_iff, Bool.eq_false_iff, Bool.eq_false_iff, Ne, Ne, zR, zR] at c2; omega
 refine zv.2 ⟨fun c3 => (eI hT h3.1 (by simpa using c3)).symm, fun c3 => ?_⟩
 have hs : sl = true := by simpa using c3
 have e2 := eG hT h3 hs
 have hdn : z6 n = true := by
  rw [hT] at hF
  revert hF
  cases z6 n <;> simp
 have hdd : z6 d = true := by
  rw [hT, hs] at hF
  revert hF
  cases z6 d <;> simp
 refine zv.2 ⟨fun c4 => ?_, fun c4 => ⟨by omega, by omega, ?_⟩⟩
 ·rw [Bool.and_eq_true, ze, ze] at c4
  have b1 := Yl hdn (k := 9) (by omega)
  have b2 := Yl hdd (k := 9) (by omega)
  refine ⟨hdn, by omega, hdd, by omega, ⟨by omega, by omega⟩, ⟨by omega, by omega⟩, fun h => ?_, fun h => ?_⟩
  ·rw [e2, show Nat.beq (Nat.gcd (zm n) (zm d)) 1 = false from Bool.eq_false_iff.2 fun e => h (by have := Nat.eq_of_beq_eq_true e; omega)]; rfl
  ·rw [e2, show Nat.beq (Nat.gcd (zm n) (zm d)) 1 = true by rw [show Nat.gcd (zm n) (zm d) = 1 by omega]; rfl]; rfl
 ·obtain ⟨i1, v1⟩ := XV hdn
  obtain ⟨i2, v2⟩ := XV hdd
  have hE : zI n d = 0 := by
   have l1 := (xB n).1
   have l2 := (xB d).1
   have q1 : ZX n = 0 := Ze.2 ⟨i1, by omega⟩
   have q2 : ZX d = 0 := Ze.2 ⟨i2, by omega⟩
   unfold zI
   rw [q1, q2]; rfl
  have hg : Zc n d = Nat.gcd (zm n) (zm d) := by unfold Zc; rw [v1, v2]; simp
  rw [hE, bne_self_eq_false, cond_false, hg, e2, Go.Ar.ym]
  have e1 : (decDigits (Nat.gcd (zm n) (zm d)) == [49]) = Nat.beq (Nat.gcd (zm n) (zm d)) 1 := by
   rw [Bool.eq_iff_iff, beq_iff_eq, Nat.beq_eq]
   constructor
   ·intro h
    have := congrArg zm h
    rw [Zd] at this
    exact this
   ·intro h
    rw [h, z7 (by decide)]; rfl
  rw [e1]
  cases Nat.beq (Nat.gcd (zm n) (zm d)) 1
  ·exact rfl
  ·exact rfl
theorem O2 {G : List (Nat × Obj)} (hG : zh G) (a : List UInt8) (hl : a.length ≤ 100000000) : zT Tryz.prog G 23 [.str a] (.i (zN a)) :=
 zU (T := (EZ G)) (an := .auto) mixed (nT hG) (Eq.mp (by kernel_rfl) (P0 G a hl))
theorem uV {G : List (Nat × Obj)} (hG : zh G) : zQ Tryz.prog G 23 XA := by
 intro xs ps r h hp
 unfold XA at h
 split at h
 ·skip
  rename_i a
  cases h
  obtain ⟨q0, -⟩ := Zo hp
  exact weaken (ys := [.str a]) ⟨zr _, trivial⟩ (O2 hG a q0)
 ·cases h
end Go.Te

namespace Go.Te
open Go Go.Sx Go.Proofs Go.Ar
set_option maxRecDepth 100000
set_option maxHeartbeats 4000000
def nk (x y : List Int) : Z9 :=
 .two .auto (.two .auto (.two .auto (.two (.two .auto (.one (.loop Zz (fun σ z => [(0, σ.tm 0), (1, σ.tm 1), (5, .ns σ.nb 0 z.out.length), (6, .i z.c), (7, .i (z.out.length : Int))]) (fun σ z => [(σ.nb, WZ z.out)]) 1 (fun σ z => WS 1000000 x y z.out.length z.out z.c ∧ z.out.length ≤ max x.length y.length + 1 ∧ (z.out.length = max x.length y.length + 1 → z.c = 0)) (fun σ z => max x.length y.length + 1 - z.out.length) .auto))) .auto)))
def Ti : List AV → Option (List zn × AV)
 | [x_x, x_y] => some ([.b (Zy Int x_x), .b (Zy Int x_y), .p (z8 1000000 (zW x_x)), .p (z8 1000000 (zW x_y)), .p ((zW x_x).length ≤ 1000000000), .p ((zW x_y).length ≤ 1000000000)], ZF (zw 1000000 (zX 1000000 (zW x_x) + zX 1000000 (zW x_y)).toNat))
 | _ => none
theorem nh (x : List Int) (y : List Int) (hx : z8 1000000 x) (hy : z8 1000000 y) (hlx : x.length ≤ 1000000000) (hly : y.length ≤ 1000000000) :
 let q1 := (xI x); let q2 := (xI y); let q6 := (zW q1); let q8 := (zW q2); let q11 := (zw 1000000 (Int.toNat (zX (1000000 : Int) x + zX (1000000 : Int) y))); ZY [xI x, xI y] → (∃ (z : Zz), ((WS (1000000 : Int) x y (lN (Zz.out z)) (Zz.out
 z) (Zz.c z) ∧ lN (Zz.out z) ≤ max (lN x) (lN y) + 1 ∧ (lN (Zz.out z) = max (lN x) (lN y) + 1 → Zz.c z = iZ)) ∧ zB q1 q1 ∧ zB q2 q2 ∧ (some (wP Nat) = some (wP Nat) ∧ 0 = 0 ∧ lN (Zz.out z) = 0 ∧ true = true ∧ 0 = 0) ∧ (kI ∧ iZ = Zz.c z) ∧ kI ∧ iZ = (lZ (Zz.out z))) ∧ lN (Zz.out z) = 0) ∧ ∀ (z : Zz), let q4 := (zH (lZ (Zz.out z)) (lZ x)); let q3 := (!zS false q4 || zS false q4); let q5 := (bif zH
 (lZ (Zz.out z)) (lZ x) then true else zH (lZ (Zz.out z)) (lZ y)); let q7 := (Int.toNat (lZ (Zz.out z))); let q9 := (gD q6 q7 iZ + gD q8 q7 iZ + Zz.c z); let q10 := (AV.xl false 1 (lN (Zz.out z)) fun i j => aI (gD (Zz.out z) (0 + i) iZ)); let q12 := (zO (zW q10)); WS (1000000 : Int) x y (lN (Zz.out z)) (Zz.out z) (Zz.c z) ∧ lN (Zz.out z) ≤ max (lN x) (lN y) + 1 ∧ (List.length
 (Zz.out z) = max (lN x) (lN y) + 1 → Zz.c z = iZ) → bF q3 (bF q3 (bF q3 (bF (!!zH (lZ (Zz.out z)) (lZ x) || zS false q4) (bF (!zS false q5 || zS false q5) (bF ((!!bif zH (lZ (Zz.out z)) (lZ x) then true else zH (lZ (Zz.out z)) (lZ y)) || zS false q5) (zY (bif bif zH (lZ (Zz.out z)) (lZ x) then true else zH (lZ (Zz.out z)) (lZ y) then true else
 zH iZ (Zz.c z)) (bF (Zy Int q1) (iZ ≤ (lZ (Zz.out z)) ∧ bF (Zy Int q2) (iZ ≤ (lZ (Zz.out z)) ∧ bF (dK (gD q6 q7 iZ + gD q8 q7 iZ)) (bF (dK q9) (bF (DB.db ((lN (Zz.out z) + 1) * 8 ≤ 140737488355328)) (bF (dK (Int.tdiv q9 (1000000 : Int))) (bF (dK ((lZ (Zz.out z)) + iO)) (∃ (z' : Zz), (((WS (1000000 : Int) x y (lN (Zz.out z')) (Zz.out z') (Zz.c z') ∧ lN (Zz.out
 z') ≤ max (lN x) (lN y) + 1 ∧ (lN (Zz.out z') = max (lN x) (lN y) + 1 → Zz.c z' = iZ)) ∧ max (lN x) (lN y) + 1 - lN (Zz.out z') < max (lN x) (lN y) + 1 - lN (Zz.out z)) ∧ zB q1 q1 ∧ zB q2 q2 ∧ (nat_lit 0 = 0 ∧ 0 = 0 ∧ lN (Zz.out z') = lN (Zz.out z) + 1) ∧ (kI ∧ Int.tdiv q9 (1000000 : Int) = Zz.c z') ∧ kI ∧ (lZ (Zz.out z)) + iO = (lZ (Zz.out z'))) ∧ (3 : TypeId) = 3 ∧ 1 = 1 ∧ List.length
 (Zz.out z') = lN (Zz.out z) + 1 ∧ ∀ (i j : Nat), i < lN (Zz.out z) + 1 → j < 1 → zB (if i < lN (Zz.out z) then aI (gD (Zz.out z) i iZ) else Sx.rowAt [fun (x_1 : Nat) => aI (Int.tmod q9 (1000000 : Int))] (i - lN (Zz.out z)) j) (aI (gD (Zz.out z') i iZ)))))))))) (bF (Zy Int q10) ((false = true → false = true) ∧ 1 = 1 ∧ lN q11 = lN q12 ∧ ∀ (i j : Nat), i < lN q12 → j < 1 → kI ∧
 gD q12 i zi.dflt = gD q11 i zi.dflt)))))))) := by
 delta bF dK xI kI lZ lN gD iZ iO aI
 dsimp only
 intro hb
 have e0 : (zi.dflt : Int) = 0 := rfl
 simp only [↓ZE, ↓ZR, row_one]
 simp only [sS, dS, e0]
 refine ⟨⟨⟨[], 0⟩, ⟨⟨.zero _ _ _, by simp, fun h => rfl⟩, rfl, rfl, rfl⟩, rfl⟩, fun z ⟨z1, z2, z3⟩ => zv.2 ⟨fun c => ?_, fun c => ?_⟩⟩
 ·have g1 := hx.get (by omega) z.out.length
  have g2 := hy.get (by omega) z.out.length
  have c0 := z1.c0
  have c1 := z1.c1
  have hs := WS.step (by omega) hx hy z1
  have d0 := hs.c0
  have d1 := hs.c1
  have hz : z.out.length ≤ max x.length y.length := by
   rw [Bool.or_eq_true, Bool.or_eq_true, zR, zR, zR] at c
   omega
  refine ⟨by omega, by omega, ⟨by omega, by omega⟩, ⟨by omega, by omega⟩, by omega, ⟨by omega, by omega⟩, ⟨by omega, by omega⟩, ⟨z.out ++ [(x.getD z.out.length 0 + y.getD z.out.length 0 + z.c).tmod 1000000], (x.getD z.out.length 0 + y.getD z.out.length 0 + z.c).tdiv 1000000⟩, ⟨⟨⟨by simp only [List.length_append, List.length_singleton]; exact hs, by simp; omega, fun h => ?_⟩, by simp; omega⟩, by simp, rfl, by simp⟩, by simp, fun i j => Uv _ _ i j⟩
  grind
 ·rw [Bool.or_eq_false_iff, Bool.or_eq_false_iff, Bool.eq_false_iff, Bool.eq_false_iff, Bool.eq_false_iff, Ne, Ne, Ne, zR, zR, zR] at c
  have c0 := z1.c0
  have hv := z1.val
  rw [show z.c = 0 by omega, Int.mul_zero, Int.add_zero, List.take_of_length_le (show x.length ≤ z.out.length by omega), List.take_of_length_le (show y.length ≤ z.out.length by omega)] at hv
  have ht : zO z.out = zw 1000000 (zX 1000000 z.out).toNat := y7 (b := 1000000) (by omega) z1.in_
  simp_all
theorem mH (x : List Int) (y : List Int) (hx : z8 1000000 x) (hy : z8 1000000 y) (hlx : x.length ≤ 1000000000) (hly : y.length ≤ 1000000000) : zT Tryz.prog [] 181 [ZF x, ZF y] (ZF (zw 1000000 (zX 1000000 x + zX 1000000 y).toNat)) :=
 zU (T := (T0.plus 173 xj).plus 175 X4) (an := nk x y) mixed (zZ.plus (zZ.plus zq wZ) Va) (Eq.mp (by kernel_rfl) (nh x y hx hy hlx hly))
theorem m8 : zQ Tryz.prog [] 181 Ti := by
 intro xs ps r h hp
 unfold Ti at h
 split at h
 ·skip
  rename_i x_x x_y
  cases h
  obtain ⟨q0, q1, q2, q3, q4, q5, -⟩ := Zo hp
  exact weaken (ys := [ZF (zW x_x), ZF (zW x_y)]) ⟨za q0, za q1, trivial⟩ (mH (zW x_x) (zW x_y) q2 q3 q4 q5)
 ·cases h
def rU : List AV → Option (List zn × AV)
 | [x_x] => some ([.b (yZ Big x_x)], .agg 2 (zt [.b (bif Nat.beq (Zi (α := Big) x_x).l.length 0 then (Zi (α := Big) x_x).neg else !(Zi (α := Big) x_x).neg), ZF (Zi (α := Big) x_x).l]))
 | _ => none
theorem MG (x : Big) :
 ZY [AV.agg 2 (zi.enc x)] → zY ((lZ (Big.l x)) == iZ) (2 = 2 ∧ (Big.neg x = bif Nat.beq (lN (Big.l x)) 0 then Big.neg x else !Big.neg x) ∧ (false = true → false = true) ∧ 1 = 1 ∧ lN (Big.l x) = lN (Big.l x) ∧ ∀ (i j : Nat), i < lN (Big.l x) → j < 1 → kI ∧ gD (Big.l x) i zi.dflt = gD (Big.l x) i zi.dflt) (2 = 2 ∧ ((!Big.neg x) = bif Nat.beq (lN (Big.l x)) 0 then Big.neg x else !Big.neg x) ∧ (false = true → false = true) ∧ 1 = 1 ∧ lN (Big.l x) = lN (Big.l x) ∧ ∀ (i j :
 Nat), i < lN (Big.l x) → j < 1 → kI ∧ gD (Big.l x) i zi.dflt = gD (Big.l x) i zi.dflt) := by
 delta kI lZ lN gD iZ
 intro hb
 have e0 : (zi.dflt : Int) = 0 := rfl
 simp only [↓ZE, ↓ZR, row_one]
 simp only [sS, dS, e0]
 refine ⟨fun h => ⟨?_, fun h => h, fun _ _ _ _ => trivial⟩, fun h => ⟨?_, fun h => h, fun _ _ _ _ => trivial⟩⟩
 ·simp_all
 ·rw [show Nat.beq x.l.length 0 = false from Bool.eq_false_iff.2 fun e => by rw [Nat.beq_eq] at e; omega]; rfl
theorem kQ (x : Big) : zT Tryz.prog [] 120 [yw x] (.agg 2 (zt [.b (bif Nat.beq x.l.length 0 then x.neg else !x.neg), ZF x.l])) :=
 zU (T := T0) (an := .auto) mixed zq (Eq.mp (by kernel_rfl) (MG x))
theorem jS : zQ Tryz.prog [] 120 rU := by
 intro xs ps r h hp
 unfold rU at h
 split at h
 ·skip
  rename_i x_x
  cases h
  obtain ⟨q0, -⟩ := Zo hp
  exact weaken (ys := [yw (Zi (α := Big) x_x)]) ⟨zc q0, trivial⟩ (kQ (Zi (α := Big) x_x))
 ·cases h
def rf (n : Bool) (l : List Int) : Int := bif n then - zX 1000000 l else zX 1000000 l
def Nc (x y : Big) : Bool := bif x.neg == y.neg then x.neg else bif zH (UN (cmpL x.l y.l)) 0 then (bif Nat.beq (zX 1000000 y.l - zX 1000000 x.l).toNat 0 then false else y.neg) else (bif Nat.beq (zX 1000000 x.l - zX 1000000 y.l).toNat 0 then false else x.neg)
def rm (x y : Big) : Int := bif x.neg == y.neg then zX 1000000 x.l + zX 1000000 y.l else bif zH (UN (cmpL x.l y.l)) 0 then zX 1000000 y.l - zX 1000000 x.l else zX 1000000 x.l - zX 1000000 y.l
theorem gu {x y : List Int} (hx : z8 1000000 x) (hy : z8 1000000 y) (tx : zO x = x) (ty : zO y = y) :
  (UN (cmpL x y) < 0 → zX 1000000 x < zX 1000000 y ∧ x.length ≤ y.length) ∧ (0 ≤ UN (cmpL x y) → zX 1000000 y ≤ zX 1000000 x ∧ y.length ≤ x.length) := by
 have e1 : x = zw 1000000 (zX 1000000 x).toNat := YO (b := 1000000) (by omega) hx tx
 have e2 : y = zw 1000000 (zX 1000000 y).toNat := YO (b := 1000000) (by omega) hy ty
 have v1 := zK (b := 1000000) (by omega) hx
 have v2 := zK (b := 1000000) (by omega) hy
 have c := (uJ (b := 1000000) (by omega) (zX 1000000 x).toNat (zX 1000000 y).toNat).1
 rw [← e1, ← e2] at c
 refine ⟨fun h => ?_, fun h => ?_⟩
 ·rw [Sa] at h
  have h1 := c.1 h
  have := Zu (b := 1000000) (m := (zX 1000000 x).toNat) (n := (zX 1000000 y).toNat) (by omega) (by omega)
  grind
 ·have h0 : ¬ cmpL x y < 0 := fun e => by rw [← Sa] at e; omega
  have h1 : ¬ (zX 1000000 x).toNat < (zX 1000000 y).toNat := fun e => h0 (c.2 e)
  have := Zu (b := 1000000) (m := (zX 1000000 y).toNat) (n := (zX 1000000 x).toNat) (by omega) (by omega)
  grind
theorem Is {n : Nat} (h : ((zw 1000000 n).length : Int) = 0) : Nat.beq n 0 = true := by rw [Nat.beq_eq]; exact yb (b := 1000000) (by omega) (by omega)
theorem Ix {n : Nat} (h : ((zw 1000000 n).length : Int) ≠ 0) : Nat.beq n 0 = false := Bool.eq_false_iff.2 fun e => by
 rw [Nat.beq_eq] at e
 rw [e, ZN] at h
 exact h rfl
def RZ : List AV → Option (List zn × AV)
 | [x_x, x_y] => some ([.b (yZ Big x_x), .b (yZ Big x_y), .p (z8 1000000 (Zi (α := Big) x_x).l), .p (z8 1000000 (Zi (α := Big) x_y).l), .p (zO (Zi (α := Big) x_x).l = (Zi (α := Big) x_x).l), .p (zO (Zi (α := Big) x_y).l = (Zi (α := Big) x_y).l), .p ((Zi (α := Big) x_x).l.length ≤ 1000000000), .p ((Zi (α := Big) x_y).l.length ≤ 1000000000)], .agg 2 (zt [.b (Nc (Zi (α := Big) x_x) (Zi (α := Big) x_y)), ZF (zw 1000000 (rm (Zi (α := Big) x_x) (Zi (α := Big) x_y)).toNat)]))
 | _ => none
theorem mX (x : Big) (y : Big) (hx : z8 1000000 x.l) (hy : z8 1000000 y.l) (tx : zO x.l = x.l) (ty : zO y.l = y.l) (lx : x.l.length ≤ 1000000000) (ly : y.l.length ≤ 1000000000) :
 let q2 := (xI (Big.l x)); let q1 := (Zy Int q2); let q4 := (xI (Big.l y)); let q3 := (Zy Int q4); let q6 := (zW q2); let q5 := (∀ (x_1 : Int), List.Mem x_1 q6 → iZ ≤ x_1 ∧ x_1 < (1000000 : Int)); let q8 := (zW q4); let q7 := (∀ (x : Int), List.Mem x q8 → iZ ≤ x ∧ x < (1000000 : Int)); let q9 := (zw 1000000 (Int.toNat (zX (1000000 : Int) q6 + zX (1000000 : Int) q8))); let q10 :=
 (zw 1000000 (Int.toNat (zX (1000000 : Int) q8 - zX (1000000 : Int) q6))); let q11 := (zw 1000000 (Int.toNat (zX (1000000 : Int) q6 - zX (1000000 : Int) q8))); ZY [AV.agg 2 (zi.enc x), AV.agg 2 (zi.enc y)] → zY (Big.neg x == Big.neg y) (bF q1 (bF q3 (q5 ∧ q7 ∧ lN q6 ≤ 1000000000 ∧ lN q8 ≤ 1000000000 ∧ 2 = 2 ∧ Big.neg x = Nc x y ∧ (false = true → false = true) ∧ 1 = 1 ∧ lN (zw 1000000 (Int.toNat (rm x y))) = lN q9 ∧ ∀ (i j : Nat), i < lN q9 → j < 1 → kI ∧ gD q9 i zi.dflt = gD (zw
 1000000 (Int.toNat (rm x y))) i zi.dflt))) (bF q1 (bF q3 (zY (zH (UN (cmpL q6 q8)) iZ) (bF q3 (bF q1 (q7 ∧ q5 ∧ lN q6 ≤ lN q8 ∧ lN q8 ≤ 1000000000 ∧ zX (1000000 : Int) q6 ≤ zX (1000000 : Int) q8 ∧ zY ((lZ q10) == iZ) (2 = 2 ∧ false = Nc x y ∧ (false = true → false = true) ∧ 1 = 1 ∧ lN (zw 1000000 (Int.toNat (rm x y))) = lN q10 ∧ ∀ (i j : Nat), i < lN q10 → j < 1 → kI ∧ gD q10 i zi.dflt = gD (zw 1000000 (Int.toNat (rm x y))) i
 zi.dflt) (2 = 2 ∧ Big.neg y = Nc x y ∧ (false = true → false = true) ∧ 1 = 1 ∧ lN (zw 1000000 (Int.toNat (rm x y))) = lN q10 ∧ ∀ (i j : Nat), i < lN q10 → j < 1 → kI ∧ gD q10 i zi.dflt = gD (zw 1000000 (Int.toNat (rm x y))) i zi.dflt)))) (bF q1 (bF q3 (q5 ∧ q7 ∧ lN q8 ≤ lN q6 ∧ lN q6 ≤ 1000000000 ∧ zX (1000000 : Int) q8 ≤ zX (1000000 : Int) q6 ∧ zY ((lZ q11) == iZ) (2 = 2 ∧ false = Nc x y ∧ (false = true → false = true) ∧ 1 = 1 ∧ List.length
 (zw 1000000 (Int.toNat (rm x y))) = lN q11 ∧ ∀ (i j : Nat), i < lN q11 → j < 1 → kI ∧ gD q11 i zi.dflt = gD (zw 1000000 (Int.toNat (rm x y))) i zi.dflt) (2 = 2 ∧ Big.neg x = Nc x y ∧ (false = true → false = true) ∧ 1 = 1 ∧ lN (zw 1000000 (Int.toNat (rm x y))) = lN q11 ∧ ∀ (i j : Nat), i < lN q11 → j < 1 → kI ∧ gD q11 i zi.dflt = gD (zw 1000000 (Int.toNat (rm x y))) i zi.dflt))))))) := by
 delta bF xI kI lZ lN gD iZ
 dsimp only
 intro hb
 have e0 : (zi.dflt : Int) = 0 := rfl
 simp only [↓ZE, ↓ZR, row_one]
 simp only [sS, dS, e0]
 obtain ⟨c1, c2⟩ := gu hx hy tx ty
 refine zv.2 ⟨fun c => ⟨hx, hy, lx, ly, ?_, fun h => h, ?_, fun i j _ _ => ?_⟩, fun c => ⟨fun h => ⟨hy, hx, (c1 h).2, ly, by have := (c1 h).1; omega, fun h2 => ⟨?_, fun h => h, ?_, fun i j _ _ => ?_⟩, fun h2 => ⟨?_, fun h => h, ?_, fun i j _ _ => ?_⟩⟩,
  fun h => ⟨hx, hy, (c2 h).2, lx, (c2 h).1, fun h2 => ⟨?_, fun h => h, ?_, fun i j _ _ => ?_⟩, fun h2 => ⟨?_, fun h => h, ?_, fun i j _ _ => ?_⟩⟩⟩⟩
 any_goals (unfold Nc; rw [c]; first | rfl | (rw [show zH (UN (cmpL x.l y.l)) 0 = true from (zR _ _).2 h]; first | (rw [Is h2]; rfl) | (rw [Ix h2]; rfl)) | (rw [show zH (UN (cmpL x.l y.l)) 0 = false from Bool.eq_false_iff.2 fun e => by have := (zR _ _).1 e; omega]; first | (rw [Is h2]; rfl) | (rw [Ix h2]; rfl)))
 all_goals (unfold rm; rw [c]; first | rfl | (rw [show zH (UN (cmpL x.l y.l)) 0 = true from (zR _ _).2 h]; rfl) | (rw [show zH (UN (cmpL x.l y.l)) 0 = false from Bool.eq_false_iff.2 fun e => by have := (zR _ _).1 e; omega]; rfl))
theorem kT (x : Big) (y : Big) (hx : z8 1000000 x.l) (hy : z8 1000000 y.l) (tx : zO x.l = x.l) (ty : zO y.l = y.l) (lx : x.l.length ≤ 1000000000) (ly : y.l.length ≤ 1000000000) : zT Tryz.prog [] 119 [yw x, yw y] (.agg 2 (zt [.b (Nc x y), ZF (zw 1000000 (rm x y).toNat)])) :=
 zU (T := ((T0.plus 178 Vr).plus 181 Ti).plus 176 W5) (an := .auto) mixed (zZ.plus (zZ.plus (zZ.plus zq QZ) m8) sI) (Eq.mp (by kernel_rfl) (mX x y hx hy tx ty lx ly))
theorem Jy : zQ Tryz.prog [] 119 RZ := by
 intro xs ps r h hp
 unfold RZ at h
 split at h
 ·skip
  rename_i x_x x_y
  cases h
  obtain ⟨q0, q1, q2, q3, q4, q5, q6, q7, -⟩ := Zo hp
  exact weaken (ys := [yw (Zi (α := Big) x_x), yw (Zi (α := Big) x_y)]) ⟨zc q0, zc q1, trivial⟩ (kT (Zi (α := Big) x_x) (Zi (α := Big) x_y) q2 q3 q4 q5 q6 q7)
 ·cases h
def rT : List AV → Option (List zn × AV)
 | [x_x, x_y] => some ([.b (yZ Big x_x), .b (yZ Big x_y), .p (z8 1000000 (Zi (α := Big) x_x).l), .p (z8 1000000 (Zi (α := Big) x_y).l), .p ((Zi (α := Big) x_x).l.length ≤ 1000000000), .p ((Zi (α := Big) x_y).l.length ≤ 1000000000)], .agg 2 (zt [.b (bif Nat.beq (zX 1000000 (Zi (α := Big) x_x).l * zX 1000000 (Zi (α := Big) x_y).l).toNat 0 then false else !((Zi (α := Big) x_x).neg == (Zi (α := Big) x_y).neg)), ZF (zw 1000000 (zX 1000000 (Zi (α := Big) x_x).l * zX 1000000 (Zi (α := Big) x_y).l).toNat)]))
 | _ => none
theorem Lo (x : Big) (y : Big) (hx : z8 1000000 x.l) (hy : z8 1000000 y.l) (lx : x.l.length ≤ 1000000000) (ly : y.l.length ≤ 1000000000) :
 let q1 := (xI (Big.l x)); let q2 := (xI (Big.l y)); let q3 := (zW q1); let q4 := (zW q2); let q5 := (zw 1000000 (Int.toNat (zX (1000000 : Int) q3 * zX (1000000 : Int) q4))); let q6 := (Int.toNat (zX (1000000 : Int) (Big.l x) * zX (1000000 : Int) (Big.l y))); let q7 := (zw 1000000 q6); ZY [AV.agg 2 (zi.enc x), AV.agg 2 (zi.enc y)] → bF (Zy Int q1) (bF (Zy Int q2) ((∀ (x_1 : Int),
 List.Mem x_1 q3 → iZ ≤ x_1 ∧ x_1 < (1000000 : Int)) ∧ (∀ (x : Int), List.Mem x q4 → iZ ≤ x ∧ x < (1000000 : Int)) ∧ lN q3 ≤ 1000000000 ∧ lN q4 ≤ 1000000000 ∧ zY ((lZ q5) == iZ) (2 = 2 ∧ (false = bif Nat.beq q6 0 then false else !Big.neg x == Big.neg y) ∧ (false = true → false = true) ∧ 1 = 1 ∧ lN q7 = lN q5 ∧ ∀ (i j : Nat), i < lN q5 → j < 1 → kI ∧ gD q5 i zi.dflt = gD q7 i zi.dflt) (2 = 2 ∧ ((!Big.neg x == Big.neg y) = bif Nat.beq q6 0 then false else !Big.neg x == Big.neg y)
 ∧ (false = true → false = true) ∧ 1 = 1 ∧ lN q7 = lN q5 ∧ ∀ (i j : Nat), i < lN q5 → j < 1 → kI ∧ gD q5 i zi.dflt = gD q7 i zi.dflt))) := by
 delta bF xI kI lZ lN gD iZ
 dsimp only
 intro hb
 have e0 : (zi.dflt : Int) = 0 := rfl
 simp only [↓ZE, ↓ZR, row_one]
 simp only [sS, dS, e0]
 refine ⟨hx, hy, lx, ly, fun h => ⟨?_, fun h => h, fun _ _ _ _ => trivial⟩, fun h => ⟨?_, fun h => h, fun _ _ _ _ => trivial⟩⟩
 ·rw [Is h]; rfl
 ·rw [Ix h]; rfl
theorem jx (x : Big) (y : Big) (hx : z8 1000000 x.l) (hy : z8 1000000 y.l) (lx : x.l.length ≤ 1000000000) (ly : y.l.length ≤ 1000000000) : zT Tryz.prog [] 180 [yw x, yw y] (.agg 2 (zt [.b (bif Nat.beq (zX 1000000 x.l * zX 1000000 y.l).toNat 0 then false else !(x.neg == y.neg)), ZF (zw 1000000 (zX 1000000 x.l * zX 1000000 y.l).toNat)])) :=
 zU (T := T0.plus 177 vy) (an := .auto) mixed (zZ.plus zq sP) (Eq.mp (by kernel_rfl) (Lo x y hx hy lx ly))
theorem jC : zQ Tryz.prog [] 180 rT := by
 intro xs ps r h hp
 unfold rT at h
 split at h
 ·skip
  rename_i x_x x_y
  cases h
  obtain ⟨q0, q1, q2, q3, q4, q5, -⟩ := Zo hp
  exact weaken (ys := [yw (Zi (α := Big) x_x), yw (Zi (α := Big) x_y)]) ⟨zc q0, zc q1, trivial⟩ (jx (Zi (α := Big) x_x) (Zi (α := Big) x_y) q2 q3 q4 q5)
 ·cases h
theorem iK {x y : Big} (hx : z8 1000000 x.l) (hy : z8 1000000 y.l) (tx : zO x.l = x.l) (ty : zO y.l = y.l) :
  0 ≤ rm x y ∧ (bif Nc x y then - rm x y else rm x y) = rf x.neg x.l + rf y.neg y.l := by
 have v1 := zK (b := 1000000) (by omega) hx
 have v2 := zK (b := 1000000) (by omega) hy
 obtain ⟨c1, c2⟩ := gu hx hy tx ty
 unfold Nc rm rf
 cases hl : zH (UN (cmpL x.l y.l)) 0 with
 | true =>
  have h := c1 ((zR _ _).1 hl)
  rw [show Nat.beq (zX 1000000 y.l - zX 1000000 x.l).toNat 0 = false from Bool.eq_false_iff.2 fun e => by rw [Nat.beq_eq] at e; omega]
  grind
 | false =>
  have h := c2 (by have : ¬ UN (cmpL x.l y.l) < 0 := fun e => by rw [(zR _ _).2 e] at hl; cases hl
                   omega)
  cases hz : Nat.beq (zX 1000000 x.l - zX 1000000 y.l).toNat 0 with
  | true =>
   rw [Nat.beq_eq] at hz
   grind
  | false => grind
end Go.Te

namespace Go.Te
open Go Go.Sx Go.Proofs Go.Ar
set_option maxRecDepth 100000
set_option maxHeartbeats 4000000
theorem Ob (n : Int) : ZX (Lib.itoa n) = ZU n := by
 obtain ⟨h1, h2⟩ := ya n
 have h3 := wH h1
 rw [h2] at h3
 unfold ZX ZU
 simp_all
theorem Uk (n : Bool) (k : Nat) : rf n (zw 1000000 k) = bif n then -(k : Int) else k := by unfold rf; rw [vL]
theorem Vq {a : zL} (h : zC a = true) : rf (a.getD 0 0 == 45) (zw 1000000 (zV a).natAbs) = zV a := by
 rw [Uk]; exact UB h
theorem kl {b : zL} (h : zC b = true) : rf (bif Nat.beq (zw 1000000 (zV b).natAbs).length 0 then b.getD 0 0 == 45 else !(b.getD 0 0 == 45)) (zw 1000000 (zV b).natAbs) = - zV b := by
 have hb := Vq h
 rw [Uk] at hb ⊢
 cases hz : Nat.beq (zw 1000000 (zV b).natAbs).length 0 with
 | true =>
  rw [Nat.beq_eq] at hz
  have := yb (b := 1000000) (by omega) hz
  grind
 | false =>
  grind
theorem Gk (s : Bool) (P : Nat) : rf (bif Nat.beq P 0 then false else s) (zw 1000000 P) = bif s then -(P : Int) else P := by
 rw [Uk]
 cases hz : Nat.beq P 0 with
 | true => simp_all
 | false => rfl
theorem Qy {n k : Nat} (h : n < 10 ^ k) : (zw 1000000 n).length ≤ k := by
 refine yU (b := 1000000) (by omega) ?_
 have h2 : 10 ^ k ≤ 1000000 ^ k := Nat.pow_le_pow_left (by omega) _
 omega
theorem w6 (n : Nat) : z8 1000000 (zw 1000000 n) ∧ zO (zw 1000000 n) = zw 1000000 n := ⟨y9 (b := 1000000) (by omega) n, XT (b := 1000000) (by omega) n⟩
theorem Ge {l : List Int} (hx : z8 1000000 l) (hl : l.length ≤ 100000000) (n : Bool) : (Lib.itoa (bif n then - zX 1000000 l else zX 1000000 l)).length ≤ 4294967280 := by
 have v0 := zK (b := 1000000) (by omega) hx
 have v1 := yN (b := 1000000) (by omega) hx
 have h1 : TA (bif n then - zX 1000000 l else zX 1000000 l) ≤ 6 * l.length + 1 := by
  refine rh (by omega) ?_
  have e : (bif n then - zX 1000000 l else zX 1000000 l).natAbs = (zX 1000000 l).toNat := by cases n <;> simp <;> omega
  rw [e]
  have h2 : (zX 1000000 l).toNat < 1000000 ^ l.length := by
   simp_all
  have h3 : (1000000 : Nat) ^ l.length = 10 ^ (6 * l.length) := by rw [Nat.pow_mul]
  omega
 rw [WQ]
 grind
def rG : List AV → Option (List zn × AV)
 | [x_x] => some ([.b (yZ Big x_x), .p (z8 1000000 (Zi (α := Big) x_x).l), .p (zO (Zi (α := Big) x_x).l = (Zi (α := Big) x_x).l), .p ((Zi (α := Big) x_x).l.length ≤ 100000000), .p ((Zi (α := Big) x_x).neg = true → (Zi (α := Big) x_x).l.length ≠ 0)], .tup 2 (zt [.str (yp (rf (Zi (α := Big) x_x).neg (Zi (α := Big) x_x).l)), .i (ZU (rf (Zi (α := Big) x_x).neg (Zi (α := Big) x_x).l))]))
 | _ => none
theorem MV (x : Big) (hx : z8 1000000 x.l) (ht : zO x.l = x.l) (hl : x.l.length ≤ 100000000) (h0 : x.neg = true → x.l.length ≠ 0) :
 let q1 := (AV.agg 2 fun (i : Nat) => zi.enc x (0 + i)); let q3 := (Zi q1); let q2 := (Big.l q3); let q5 := (bif Big.neg q3 then -zX (1000000 : Int) q2 else zX (1000000 : Int) q2); let q4 := (Lib.itoa q5); ZY [AV.agg 2 (zi.enc x)] → bF (yZ Big q1) ((∀ (x_1 : Int), List.Mem x_1 q2 → iZ ≤ x_1 ∧ x_1 < (1000000 : Int)) ∧ zO q2 = Big.l q3 ∧ lN q2 ≤ 100000000 ∧ (Big.neg q3 = true → lN q2 ≠ 0) ∧ lN q4 ≤ nM ∧ zY (ZX q4 != iZ) (j2 ∧ (True ∧ bA #[] = yp (rf
 (Big.neg x) (Big.l x))) ∧ kI ∧ (4 : Int) = ZU (rf (Big.neg x) (Big.l x))) (j2 ∧ (True ∧ Lib.itoa q5 = yp (rf (Big.neg x) (Big.l x))) ∧ kI ∧ iZ = ZU (rf (Big.neg x) (Big.l x)))) := by
 delta bF bA nM kI j2 lN iZ
 dsimp only
 intro hb
 have e0 : (zi.dflt : Int) = 0 := rfl
 simp only [↓ZE, ↓ZR, row_one]
 simp only [sS, dS, e0, qA, SL, Y3, Ob]
 unfold rf
 refine ⟨hx, ht, hl, h0, Ge hx hl _, fun h => ?_, fun h => ?_⟩
 ·generalize (bif x.neg then - zX 1000000 x.l else zX 1000000 x.l) = v at *
  have e : ZU v = 4 := by
   unfold ZU at h ⊢
   grind
  refine ⟨rfl, ?_, e.symm⟩
  unfold yp
  simp_all
 ·refine ⟨rfl, ?_, h.symm⟩
  unfold yp
  simp_all
theorem Jq (x : Big) (hx : z8 1000000 x.l) (ht : zO x.l = x.l) (hl : x.l.length ≤ 100000000) (h0 : x.neg = true → x.l.length ≠ 0) : zT Tryz.prog [] 179 [yw x] (.tup 2 (zt [.str (yp (rf x.neg x.l)), .i (ZU (rf x.neg x.l))])) :=
 zU (T := (T0.plus 117 vT).plus 171 WE) (an := .auto) mixed (zZ.plus (zZ.plus zq si) SR) (Eq.mp (by kernel_rfl) (MV x hx ht hl h0))
theorem jo : zQ Tryz.prog [] 179 rG := by
 intro xs ps r h hp
 unfold rG at h
 split at h
 ·skip
  rename_i x_x
  cases h
  obtain ⟨q0, q1, q2, q3, q4, -⟩ := Zo hp
  exact weaken (ys := [yw (Zi (α := Big) x_x)]) ⟨zc q0, trivial⟩ (Jq (Zi (α := Big) x_x) q1 q2 q3 q4)
 ·cases h
noncomputable def FL (G : List (Nat × Obj)) : Tb := (((((((Kk G).plus 113 Vd).plus 114 Uj).plus 115 Vv).plus 180 rT).plus 119 RZ).plus 120 rU).plus 179 rG
theorem sO {G : List (Nat × Obj)} (hG : zh G) : zZ Tryz.prog (FL G) :=
 zZ.plus (zZ.plus (zZ.plus (zZ.plus (zZ.plus (zZ.plus (zZ.plus (Yj hG) (zQ.mono QN)) (zQ.mono Om)) (zQ.mono qh)) (zQ.mono jC)) (zQ.mono Jy)) (zQ.mono jS)) (zQ.mono jo)
def RV : List AV → Option (List zn × AV)
 | [.str a, .str b] => some ([.p (a.length ≤ 100000000), .p (b.length ≤ 100000000)], .tup 2 (zt [.str (YR (· * ·) a b), .i (yI (· * ·) a b)]))
 | _ => none
theorem kw (G : List (Nat × Obj)) (a : List UInt8) (b : List UInt8) (hla : a.length ≤ 100000000) (hlb : b.length ≤ 100000000) :
 let q2 := (leB (lZ a) (17 : Int) && leB (lZ b) (17 : Int)); let q1 := (!zS true q2 || zS true q2); let q3 := ((lZ a) + (lZ b)); let q5 := (bif leB (lZ a) (17 : Int) then zV a else iZ); let q4 := (q5 * bif leB (lZ a) (17 : Int) && leB (lZ b) (17 : Int) then zV b else iZ); let q6 := (AV.agg 2 fun i => Option.getD [AV.v (Value.bool (gD a 0 (0 : UInt8) == (45 : UInt8))), AV.xl false 1 (lN (zw 1000000 (Int.natAbs (zV a)))) fun i j =>
 aI (gD (zw 1000000 (Int.natAbs (zV a))) i zi.dflt)][i]? AV.junk); let q7 := (AV.agg 2 fun i => Option.getD [AV.v (Value.bool (gD b 0 (0 : UInt8) == (45 : UInt8))), xI (zw 1000000 (Int.natAbs (zV b)))][i]? AV.junk); let q9 := (Zi q6); let q8 := (Big.l q9); let q11 := (Zi q7); let q10 := (Big.l q11); let q13 := (Int.toNat (zX (1000000 : Int) q8 * zX (1000000 : Int) q10)); let q14 := (zw 1000000 q13); let q12 := (AV.agg 2 fun i
 => Option.getD [AV.v (Value.bool (bif Nat.beq q13 0 then false else !Big.neg q9 == Big.neg q11)), xI q14][i]? AV.junk); let q16 := (Zi q12); let q15 := (Big.l q16); let q17 := (rf (Big.neg q16) q15); ZY [AV.str a, AV.str b] → lN a ≤ nM ∧ lN b ≤ nM ∧ zY (zI a b != iZ) (j2 ∧ (True ∧ bA #[] = YR (fun (x1 x2 : Int) => x1 * x2) a b) ∧ kI ∧ zI a b = yI (fun (x1 x2 : Int)
 => x1 * x2) a b) (zC a = true ∧ lN a ≤ nM ∧ zC b = true ∧ lN b ≤ nM ∧ bF q1 (bF q1 (bF q1 (bF q1 (bF (!zS true q2 || dK q3) (bF q1 (bF (!q2 || zS true q2) (zY (bif leB (lZ a) (17 : Int) && leB (lZ b) (17 : Int) then leB q3 (18 : Int) else false) (bF (dK q4) (((iN ≤ q5 * bif leB (lZ a) (17 : Int) && leB (lZ b) (17 : Int) then zV b else iZ) ∧ q4 ≤ iX) ∧ 2 =
 lN [AV.junk, AV.junk] ∧ (True ∧ Lib.itoa q4 = YR (fun (x1 x2 : Int) => x1 * x2) a b) ∧ kI ∧ iZ = yI (fun (x1 x2 : Int) => x1 * x2) a b)) (zC a = true ∧ lN a ≤ nM ∧ zC b = true ∧ lN b ≤ nM ∧ bF (yZ Big q6) (bF (yZ Big q7) ((∀ (x : Int), List.Mem x q8 → iZ ≤ x ∧ x < (1000000 : Int)) ∧ (∀ (x : Int), List.Mem x q10 → iZ ≤ x ∧ x < (1000000 : Int)) ∧ lN q8 ≤ 1000000000 ∧ lN q10 ≤ 1000000000 ∧ bF (yZ Big q12) ((∀ (x : Int), List.Mem x q15 → iZ ≤ x ∧ x < (1000000 :
 Int)) ∧ zO q15 = Big.l q16 ∧ lN q15 ≤ 100000000 ∧ (Big.neg q16 = true → lN q15 ≠ 0) ∧ j2 ∧ (True ∧ yp q17 = YR (fun (x1 x2 : Int) => x1 * x2) a b) ∧ kI ∧ ZU q17 = yI (fun (x1 x2 : Int) => x1 * x2) a b)))))))))))) := by
 delta bF dK bA xI nM kI j2 lZ lN gD iZ iX iN aI
 dsimp only
 intro hb
 have e0 : (zi.dflt : Int) = 0 := rfl
 simp only [↓ZE, ↓ZR, row_one]
 simp only [sS, dS, e0, Yb, YW, Ym, yE, x8, YD, x5, YB, Y3]
 simp only [vL]
 refine ⟨by omega, by omega, fun hE => ⟨rfl, (u7 hE).1.symm, (u7 hE).2.symm⟩, fun hE => ?_⟩
 obtain ⟨hA, hB⟩ := yg hE
 obtain ⟨a1, a2, a3⟩ := Zb hA
 obtain ⟨b1, b2, b3⟩ := Zb hB
 have hP : (((zV a).natAbs : Int) * ((zV b).natAbs : Int)).toNat = (zV a).natAbs * (zV b).natAbs := by rw [← Int.natCast_mul]; rfl
 have hl : (zw 1000000 ((zV a).natAbs * (zV b).natAbs)).length ≤ 602 := by
  refine Qy ?_
  rw [show 10 ^ 602 = 10 ^ 301 * 10 ^ 301 from Lq 301 602 rfl]
  have hm := Nat.mul_lt_mul'' a1 b1
  exact hm
 have la := Qy a1
 have lb := Qy b1
 have hv : rf (bif Nat.beq ((zV a).natAbs * (zV b).natAbs) 0 then false else !((a.getD 0 0 == 45) == (b.getD 0 0 == 45))) (zw 1000000 ((zV a).natAbs * (zV b).natAbs)) = zV a * zV b := by
  have h1 := Vq a3
  have h2 := Vq b3
  rw [Uk] at h1 h2
  rw [Gk, Int.natCast_mul, OV, h1, h2]
 rw [hP, (vm hE).1, (vm hE).2, hv]
 refine ⟨a3, by omega, b3, by omega, fun _ => ⟨by omega, by omega⟩, zv.2 ⟨fun c => ?_, fun c => ?_⟩⟩
 ·rw [Bool.and_eq_true, Bool.and_eq_true] at c
  rw [c.1.1, c.1.2]
  simp only [cond_true, Bool.and_self]
  have h18 := (ze _ _).1 c.2
  have hm : (zV a * zV b).natAbs < 10 ^ 18 := by
   rw [Int.natAbs_mul]
   have h1 := Nat.mul_lt_mul'' (TS a3) (TS b3)
   rw [← Nat.pow_add] at h1
   exact Nat.lt_of_lt_of_le h1 (Nat.pow_le_pow_right (by omega) (by omega))
  obtain ⟨r1, r2⟩ := ZS (n := zV a * zV b) (k := 18) (by omega) (by omega) hm
  rw [show 10 ^ 18 = 1000000000000000000 from by decide] at hm
  exact ⟨⟨by omega, by omega⟩, ⟨by omega, by omega⟩, rfl, r1.symm, r2.symm⟩
 ·refine ⟨a3, by omega, b3, by omega, (w6 _).1, (w6 _).1, by omega, by omega, (w6 _).1, (w6 _).2, by omega, fun h e => ?_, rfl, rfl, rfl⟩
  have := yb (b := 1000000) (by omega) e
  rw [this] at h
  cases h
theorem KT {G : List (Nat × Obj)} (hG : zh G) (a : List UInt8) (b : List UInt8) (hla : a.length ≤ 100000000) (hlb : b.length ≤ 100000000) : zT Tryz.prog G 118 [.str a, .str b] (.tup 2 (zt [.str (YR (· * ·) a b), .i (yI (· * ·) a b)])) :=
 zU (T := FL G) (an := .auto) mixed (sO hG) (Eq.mp (by kernel_rfl) (kw G a b hla hlb))
theorem kD {G : List (Nat × Obj)} (hG : zh G) : zQ Tryz.prog G 118 RV := by
 intro xs ps r h hp
 unfold RV at h
 split at h
 ·skip
  rename_i a b
  cases h
  obtain ⟨q0, q1, -⟩ := Zo hp
  exact weaken (ys := [.str a, .str b]) ⟨zr _, zr _, trivial⟩ (KT hG a b q0 q1)
 ·cases h
def SD : List AV → Option (List zn × AV)
 | [.str a, .str b] => some ([.p (a.length ≤ 100000000), .p (b.length ≤ 100000000)], .tup 2 (zt [.i (x3 a b), .i (zI a b)]))
 | _ => none
theorem mE (G : List (Nat × Obj)) (a : List UInt8) (b : List UInt8) (hla : a.length ≤ 100000000) (hlb : b.length ≤ 100000000) :
 let q1 := (True ∧ kI ∧ iZ = x3 a b); let q2 := (bif leB (lZ a) (17 : Int) then zV a else iZ); let q3 := (bif leB (lZ a) (17 : Int) && leB (lZ b) (17 : Int) then zV b else iZ); let q4 := (j2 ∧ (True ∧ kI ∧ (-1 : Int) = x3 a b) ∧ kI ∧ iZ = zI a b); let q5 := (j2 ∧ (True ∧ kI ∧ iO = x3 a b) ∧ kI ∧ iZ = zI a b); let q6 := (2 = List.length
 [AV.junk, AV.junk] ∧ q1 ∧ kI ∧ iZ = zI a b); let q7 := (AV.agg 2 fun i => Option.getD [AV.v (Value.bool (gD b 0 (0 : UInt8) == (45 : UInt8))), xI (zw 1000000 (Int.natAbs (zV b)))][i]? AV.junk); let q8 := (AV.agg 2 fun i => Option.getD [AV.v (Value.bool (gD a 0 (0 : UInt8) == (45 : UInt8))), AV.xl false 1 (lN (zw 1000000 (Int.natAbs (zV a)))) fun i j => aI (gD (zw 1000000 (Int.natAbs (zV
 a))) i zi.dflt)][i]? AV.junk); let q12 := (Zi q7); let q11 := (Big.l q12); let q10 := (lN q11); let q9 := (AV.agg 2 fun i => Option.getD [AV.v (Value.bool (bif Nat.beq q10 0 then Big.neg q12 else !Big.neg q12)), AV.xl false 1 q10 fun i j => aI (gD q11 i zi.dflt)][i]? AV.junk); let q14 := (Zi q8); let q13 := (Big.l q14); let q16 := (Zi q9); let q15 := (Big.l q16); ZY [AV.str a, AV.str b] → lN a ≤ nM ∧ lN b ≤ nM ∧ zY (zI a b != iZ) (j2 ∧ q1 ∧ kI ∧ zI a b =
 zI a b) (zC a = true ∧ lN a ≤ nM ∧ zC b = true ∧ lN b ≤ nM ∧ zY (leB (lZ a) (17 : Int) && leB (lZ b) (17 : Int)) (zY (zH q2 q3) q4 (zY (zH q3 q2) q5 q6)) (zC a = true ∧ lN a ≤ nM ∧ zC b = true ∧ lN b ≤ nM ∧ bF (yZ Big q7) (bF (yZ Big q8) (bF (yZ Big q9) ((∀ (x : Int), List.Mem x q13 → iZ ≤ x ∧ x < (1000000 : Int)) ∧ (∀ (x : Int), List.Mem x q15 → iZ ≤ x ∧ x < (1000000 : Int)) ∧ zO q13 = Big.l q14 ∧ zO q15 = Big.l q16 ∧ List.length
 q13 ≤ 1000000000 ∧ lN q15 ≤ 1000000000 ∧ zY ((lZ (zw 1000000 (Int.toNat (rm q14 q16)))) == iZ) q6 (zY (Nc q14 q16) q4 q5)))))) := by
 delta bF xI nM kI j2 lZ lN gD iZ iO aI
 dsimp only
 intro hb
 have e0 : (zi.dflt : Int) = 0 := rfl
 simp only [↓ZE, ↓ZR, row_one]
 simp only [sS, dS, e0, Yb, YW, Ym, yE, x8, YD, x5, YB, Y3]
 have hV : zI a b = 0 → x3 a b = Xk (zV a) (zV b) := fun h => by unfold x3; rw [h]; rfl
 refine ⟨by omega, by omega, fun hE => ⟨rfl, ?_⟩, fun hE => ?_⟩
 ·unfold x3; rw [bne_iff_ne.2 hE]; rfl
 obtain ⟨hA, hB⟩ := yg hE
 obtain ⟨a1, a2, a3⟩ := Zb hA
 obtain ⟨b1, b2, b3⟩ := Zb hB
 rw [hV hE, hE]
 refine ⟨a3, by omega, b3, by omega, zv.2 ⟨fun c => ?_, fun c => ?_⟩⟩
 ·rw [Bool.and_eq_true] at c
  rw [c.1, c.2]
  simp only [cond_true, Bool.and_self]
  unfold Xk
  refine ⟨fun h => ?_, fun h => ⟨fun h2 => ?_, fun h2 => ?_⟩⟩
  ·rw [(zR _ _).2 h]; exact ⟨rfl, rfl, trivial⟩
  ·rw [show zH (zV a) (zV b) = false from Bool.eq_false_iff.2 fun e => by have := (zR _ _).1 e; omega, beq_eq_false_iff_ne.2 (by omega)]; exact ⟨rfl, rfl, trivial⟩
  ·rw [show zV a = zV b by omega, show zH (zV b) (zV b) = false from Bool.eq_false_iff.2 fun e => by have := (zR _ _).1 e; omega, beq_self_eq_true]; exact ⟨rfl, rfl, trivial⟩
 ·have hs := kl b3
  generalize (bif Nat.beq (zw 1000000 (zV b).natAbs).length 0 then b.getD 0 0 == 45 else !(b.getD 0 0 == 45)) = nb at *
  obtain ⟨q3, q1⟩ := iK (x := ⟨a.getD 0 0 == 45, zw 1000000 (zV a).natAbs⟩) (y := ⟨nb, zw 1000000 (zV b).natAbs⟩) (w6 _).1 (w6 _).1 (w6 _).2 (w6 _).2
  simp only [hs, Vq a3] at q1
  have la := Qy a1
  have lb := Qy b1
  refine ⟨a3, by omega, b3, by omega, (w6 _).1, (w6 _).1, (w6 _).2, (w6 _).2, by omega, by omega, fun h0 => ?_, fun h0 => zv.2 ⟨fun hn => ?_, fun hn => ?_⟩⟩
  all_goals
   generalize rm ⟨a.getD 0 0 == 45, zw 1000000 (zV a).natAbs⟩ ⟨nb, zw 1000000 (zV b).natAbs⟩ = v at *
   generalize Nc ⟨a.getD 0 0 == 45, zw 1000000 (zV a).natAbs⟩ ⟨nb, zw 1000000 (zV b).natAbs⟩ = n at *
  ·have h1 := yb (b := 1000000) (n := v.toNat) (by omega) (by omega)
   have : zV a = zV b := by cases n <;> simp at q1 <;> omega
   unfold Xk
   rw [this, show zH (zV b) (zV b) = false from Bool.eq_false_iff.2 fun e => by have := (zR _ _).1 e; omega, beq_self_eq_true]
   simp
  all_goals
   have h1 : v.toNat ≠ 0 := fun e => h0 (by rw [e, ZN]; rfl)
   rw [hn] at q1
   unfold Xk
  ·rw [cond_true] at q1
   rw [(zR _ _).2 (show zV a < zV b by omega)]
   simp
  ·rw [cond_false] at q1
   rw [show zH (zV a) (zV b) = false from Bool.eq_false_iff.2 fun e => by have := (zR _ _).1 e; omega, beq_eq_false_iff_ne.2 (show zV a ≠ zV b by omega)]
   simp
theorem Jr {G : List (Nat × Obj)} (hG : zh G) (a : List UInt8) (b : List UInt8) (hla : a.length ≤ 100000000) (hlb : b.length ≤ 100000000) : zT Tryz.prog G 68 [.str a, .str b] (.tup 2 (zt [.i (x3 a b), .i (zI a b)])) :=
 zU (T := FL G) (an := .auto) mixed (sO hG) (Eq.mp (by kernel_rfl) (mE G a b hla hlb))
theorem Kh {G : List (Nat × Obj)} (hG : zh G) : zQ Tryz.prog G 68 SD := by
 intro xs ps r h hp
 unfold SD at h
 split at h
 ·skip
  rename_i a b
  cases h
  obtain ⟨q0, q1, -⟩ := Zo hp
  exact weaken (ys := [.str a, .str b]) ⟨zr _, zr _, trivial⟩ (Jr hG a b q0 q1)
 ·cases h
end Go.Te

namespace Go.Te
open Go Go.Sx Go.Proofs Go.Ar
set_option maxRecDepth 100000
set_option maxHeartbeats 4000000
def Tr : List AV → Option (List zn × AV)
 | [.str a, .str b] => some ([.p (a.length ≤ 100000000), .p (b.length ≤ 100000000)], .i (bif zN a != 0 then zN a else zN b))
 | _ => none
theorem Og (G : List (Nat × Obj)) (a : List UInt8) (b : List UInt8) (hla : a.length ≤ 100000000) (hlb : b.length ≤ 100000000) :
 ZY [AV.str a, AV.str b] → lN a ≤ 100000000 ∧ zY (zN a != iZ) (kI ∧ zN a = bif zN a != iZ then zN a else zN b) (lN b ≤ 100000000 ∧ kI ∧ zN b = bif zN a != iZ then zN a else zN b) := by
 delta kI lN iZ
 intro hb
 simp only [sS, dS, Za]
 refine ⟨hla, fun h => by rw [bne_iff_ne.2 h]; rfl, fun h => ⟨hlb, by rw [h]; rfl⟩⟩
theorem lW {G : List (Nat × Obj)} (hG : zh G) (a : List UInt8) (b : List UInt8) (hla : a.length ≤ 100000000) (hlb : b.length ≤ 100000000) : zT Tryz.prog G 64 [.str a, .str b] (.i (bif zN a != 0 then zN a else zN b)) :=
 zU (T := (Vw G).plus 23 XA) (an := .auto) mixed (zZ.plus zq (uV hG)) (Eq.mp (by kernel_rfl) (Og G a b hla hlb))
theorem lT {G : List (Nat × Obj)} (hG : zh G) : zQ Tryz.prog G 64 Tr := by
 intro xs ps r h hp
 unfold Tr at h
 split at h
 ·skip
  rename_i a b
  cases h
  obtain ⟨q0, q1, -⟩ := Zo hp
  exact weaken (ys := [.str a, .str b]) ⟨zr _, zr _, trivial⟩ (lW hG a b q0 q1)
 ·cases h
def vN (a : zL) : Bool := leB ((zp (zu a)).length : Int) 9 && leB ((zg (zu a)).length : Int) 9
theorem F2 {a b : zL} (h : zN a ≠ 0) : 0 = WJ a b ∧ zN a = Y2 a b := by
 have e : Y2 a b = zN a := by unfold Y2; rw [bne_iff_ne.2 h]; rfl
 unfold WJ
 rw [e, beq_eq_false_iff_ne.2 h]
 exact ⟨rfl, rfl⟩
theorem FQ {a b : zL} (h0 : zN a = 0) (h : zN b ≠ 0) : 0 = WJ a b ∧ zN b = Y2 a b := by
 have e : Y2 a b = zN b := by unfold Y2; rw [h0, bne_iff_ne.2 h]; rfl
 unfold WJ
 rw [e, beq_eq_false_iff_ne.2 h]
 exact ⟨rfl, rfl⟩
theorem eU {a b : zL} (h0 : zN a = 0) (h1 : zN b = 0) (h : ZU (zJ a * (zP b : Int)) ≠ 0) : 0 = WJ a b ∧ ZU (zJ a * (zP b : Int)) = Y2 a b := by
 have e : Y2 a b = ZU (zJ a * (zP b : Int)) := by unfold Y2; rw [h0, h1, bne_iff_ne.2 h]; rfl
 unfold WJ
 rw [e, beq_eq_false_iff_ne.2 h]
 exact ⟨rfl, rfl⟩
theorem Hx {a b : zL} (h0 : zN a = 0) (h1 : zN b = 0) (h : ZU (zJ a * (zP b : Int)) = 0) : Y2 a b = ZU (zJ b * (zP a : Int)) := by
 unfold Y2; rw [h0, h1, h]; rfl
theorem gH {a b : zL} (h : Y2 a b = 0) : WJ a b = Xk (zJ a * (zP b : Int)) (zJ b * (zP a : Int)) := by unfold WJ; rw [h]; rfl
theorem oS {n : Int} (h : ZU n = 0) : (yp n).length ≤ 301 := by
 have e : yp n = Lib.itoa n := by unfold yp; rw [h]; rfl
 rw [e, WQ]
 have : ¬ 300 < TA n := fun e => by unfold ZU at h; rw [(zA _ _).2 e] at h; cases h
 split <;> omega
theorem oQ {a : zL} (h : zN a = 0) : (Zm a).length ≤ 301 := by
 have := (ZJ.1 h).2.2.1
 unfold Zm
 cases zk a <;> simp <;> omega
theorem qa {a : zL} (h : zN a = 0) : XQ a = true := by
 cases hf : XQ a with
 | true => rfl
 | false => rw [VE hf] at h; cases h
theorem Rx {a : zL} (hr : zN a = 0) (h : vN a = true) : (zJ a).natAbs ≤ 999999999 ∧ zP a ≤ 999999999 := by
 obtain ⟨g1, g2, g3⟩ := YP.1 (qa hr)
 unfold vN at h
 rw [Bool.and_eq_true, ze, ze] at h
 have b := Yl g1 (k := 9) (by omega)
 rw [show 10 ^ 9 = 1000000000 from by decide] at b
 refine ⟨by rw [WU]; omega, ?_⟩
 rw [(UH (a := a)).2]
 cases hs : zk (zu a) with
 | false => show 1 ≤ 999999999; decide
 | true =>
  have b := Yl (g3 hs).1 (k := 9) (by omega)
  rw [show 10 ^ 9 = 1000000000 from by decide] at b
  simp only [cond_true]
  omega
def TK : List AV → Option (List zn × AV)
 | [.str a] => some ([.p (a.length ≤ 4294967280), .p (zN a = 0)], .tup 3 (zt [.i (bif vN a then zJ a else 0), .i (bif vN a then (zP a : Int) else 0), .b (vN a)]))
 | _ => none
theorem Nr (a : List UInt8) (hl : a.length ≤ 4294967280) (hr : zN a = 0) :
 let q2 := (zH (9 : Int) (lZ (zp (zu a)))); let q1 := (!zS false q2 || zS false q2); let q3 := (DB.db (Y1 .i64 (-(cI (zm (zp (zu a))))))); let q4 := (True ∧ kI ∧ -(cI (zm (zp (zu a)))) = bif vN a then zJ a else iZ); let q5 := (True ∧ kI ∧ (cI (zm (zp (zu a)))) = bif vN a then zJ a else iZ); ZY [AV.str a] → lN a ≤ nM ∧ bF q1 (zY q1 (bF (!!zH (9 : Int) (lZ (zp (zu a))) || zS false q2) (zY (bif zH (9 : Int) (lZ (zp
 (zu a))) then true else zH (9 : Int) (lZ (zg (zu a)))) (3 = lN [AV.junk, AV.junk, AV.junk] ∧ ((True ∧ kI ∧ iZ = bif vN a then zJ a else iZ) ∧ kI ∧ iZ = bif vN a then (cI (zP a)) else iZ) ∧ false = vN a) (z6 (zp (zu a)) = true ∧ lN (zp (zu a)) ≤ 18 ∧ zY (zk (zu a)) (z6 (zg (zu a)) = true ∧ lN (zg (zu a)) ≤ 18 ∧ zY (zG a) (bF q3 (3 = lN [AV.junk, AV.junk, AV.junk] ∧ (q4 ∧ kI ∧ (↑(zm (zg (zu a))) :
 Int) = bif vN a then (cI (zP a)) else iZ) ∧ true = vN a)) (3 = lN [AV.junk, AV.junk, AV.junk] ∧ (q5 ∧ kI ∧ (cI (zm (zg (zu a)))) = bif vN a then (cI (zP a)) else iZ) ∧ true = vN a)) (zY (zG a) (bF q3 (3 = lN [AV.junk, AV.junk, AV.junk] ∧ (q4 ∧ kI ∧ iO = bif vN a then (cI (zP a)) else iZ) ∧ true = vN a)) (3 = lN [AV.junk, AV.junk, AV.junk] ∧ (q5 ∧ kI ∧ iO = bif vN a then (cI (zP a)) else iZ) ∧ true = vN a)))))
 False) := by
 delta bF nM cI kI lZ lN iZ iO
 dsimp only
 intro hb
 simp only [sS, dS, Za]
 obtain ⟨g1, g2, g3⟩ := YP.1 (qa hr)
 obtain ⟨w1, w2⟩ := UH (a := a)
 have e9 : (zH 9 ((zp (zu a)).length : Int) || zH 9 ((zg (zu a)).length : Int)) = !vN a := by
  unfold vN
  rw [Bool.eq_iff_iff, Bool.or_eq_true, zR, zR, Bool.not_eq_true', Bool.and_eq_false_iff, Bool.eq_false_iff, Bool.eq_false_iff, Ne, Ne, ze, ze]
  omega
 rw [e9, w1, w2]
 refine ⟨hl, zv.2 ⟨fun c => ?_, fun c => ?_⟩⟩
 ·rw [Bool.not_eq_true'] at c
  rw [c]
  exact ⟨rfl, ⟨rfl, rfl⟩, rfl⟩
 ·rw [Bool.not_eq_false'] at c
  obtain ⟨s1, s2⟩ := Rx hr c
  rw [WU] at s1
  have c' := c
  unfold vN at c'
  rw [Bool.and_eq_true, ze, ze] at c'
  rw [c]
  simp only [cond_true]
  refine ⟨g1, by omega, zv.2 ⟨fun hs => ⟨(g3 hs).1, by omega, zv.2 ⟨fun hm => ⟨⟨by omega, by omega⟩, rfl, ⟨?_, ?_⟩, trivial⟩, fun hm => ⟨rfl, ⟨?_, ?_⟩, trivial⟩⟩⟩, fun hs => zv.2 ⟨fun hm => ⟨⟨by omega, by omega⟩, rfl, ⟨?_, ?_⟩, trivial⟩, fun hm => ⟨rfl, ⟨?_, ?_⟩, trivial⟩⟩⟩⟩
  all_goals first | (rw [hm]; rfl) | (rw [hs]; rfl)
theorem Mn (a : List UInt8) (hl : a.length ≤ 4294967280) (hr : zN a = 0) : zT Tryz.prog [] 65 [.str a] (.tup 3 (zt [.i (bif vN a then zJ a else 0), .i (bif vN a then (zP a : Int) else 0), .b (vN a)])) :=
 zU (T := (T0.plus 59 wY).plus 62 W8) (an := .auto) mixed (zZ.plus (zZ.plus zq uk) SK) (Eq.mp (by kernel_rfl) (Nr a hl hr))
theorem lX : zQ Tryz.prog [] 65 TK := by
 intro xs ps r h hp
 unfold TK at h
 split at h
 ·skip
  rename_i a
  cases h
  obtain ⟨q0, q1, -⟩ := Zo hp
  exact weaken (ys := [.str a]) ⟨zr _, trivial⟩ (Mn a q0 q1)
 ·cases h
def uY : List AV → Option (List zn × AV)
 | [.str a] => some ([.p (a.length ≤ 4294967280)], .tup 2 (zt [.str (zp a), .str (Zm a)]))
 | _ => none
theorem P4 (a : List UInt8) (hl : a.length ≤ 4294967280) :
 ZY [AV.str a] → lN a ≤ nM ∧ zY (zG a) (bF (DB.db (1 + lN (zp (zu a)) ≤ nX)) (zY (!zk (zu a)) (j2 ∧ (True ∧ bA #[(45 : UInt8)] ++ zp (zu a) = zp a) ∧ bA #[(49 : UInt8)] = Zm a) (j2 ∧ (True ∧ bA #[(45 : UInt8)] ++ zp (zu a) = zp a) ∧ zg (zu a) = Zm a))) (zY (!zk (zu a)) (j2 ∧
 (True ∧ zp (zu a) = zp a) ∧ bA #[(49 : UInt8)] = Zm a) (j2 ∧ (True ∧ zp (zu a) = zp a) ∧ zg (zu a) = Zm a)) := by
 delta bF bA nX nM j2 lN
 intro hb
 simp only [sS, dS, Za]
 obtain ⟨o1, o2, o3, _⟩ := YH a
 have l1 := Ya (zu a)
 have l2 := X6 a
 unfold Zm
 rw [o1, o2, o3]
 refine ⟨hl, zv.2 ⟨fun c => ⟨by omega, zv.2 ⟨fun h => ?_, fun h => ?_⟩⟩, fun c => zv.2 ⟨fun h => ?_, fun h => ?_⟩⟩⟩
 ·rw [c, show zk (zu a) = false by rw [Bool.not_eq_true'] at h; exact h]; exact ⟨rfl, rfl, rfl⟩
 ·rw [c, show zk (zu a) = true by rw [Bool.not_eq_false'] at h; exact h]; exact ⟨rfl, rfl, rfl⟩
 ·rw [c, show zk (zu a) = false by rw [Bool.not_eq_true'] at h; exact h]; exact ⟨rfl, rfl, rfl⟩
 ·rw [c, show zk (zu a) = true by rw [Bool.not_eq_false'] at h; exact h]; exact ⟨rfl, rfl, rfl⟩
theorem Nw (a : List UInt8) (hl : a.length ≤ 4294967280) : zT Tryz.prog [] 66 [.str a] (.tup 2 (zt [.str (zp a), .str (Zm a)])) :=
 zU (T := T0.plus 59 wY) (an := .auto) mixed (zZ.plus zq uk) (Eq.mp (by kernel_rfl) (P4 a hl))
theorem Nm : zQ Tryz.prog [] 66 uY := by
 intro xs ps r h hp
 unfold uY at h
 split at h
 ·skip
  rename_i a
  cases h
  obtain ⟨q0, -⟩ := Zo hp
  exact weaken (ys := [.str a]) ⟨zr _, trivial⟩ (Nw a q0)
 ·cases h
noncomputable def Gt (G : List (Nat × Obj)) : Tb := (((((Vw G).plus 64 Tr).plus 65 TK).plus 66 uY).plus 118 RV).plus 68 SD
theorem Qg {G : List (Nat × Obj)} (hG : zh G) : zZ Tryz.prog (Gt G) := zZ.plus (zZ.plus (zZ.plus (zZ.plus (zZ.plus zq (lT hG)) (zQ.mono lX)) (zQ.mono Nm)) (kD hG)) (Kh hG)
noncomputable def Ga (G : List (Nat × Obj)) : Tb := (Gt G).body Tryz.prog [(67, .auto)]
theorem pT {G : List (Nat × Obj)} (hG : zh G) : zZ Tryz.prog (Ga G) := zZ.body mixed (Qg hG) _
def RP : List AV → Option (List zn × AV)
 | [.str a, .str b] => some ([.p (a.length ≤ 100000000), .p (b.length ≤ 100000000)], .tup 2 (zt [.i (WJ a b), .i (Y2 a b)]))
 | _ => none
theorem La (G : List (Nat × Obj)) (a : List UInt8) (b : List UInt8) (hla : a.length ≤ 100000000) (hlb : b.length ≤ 100000000) :
 let q1 := (bif zN a != iZ then zN a else zN b); let q2 := (True ∧ kI ∧ iZ = WJ a b); let q4 := ((bif vN a then zJ a else iZ) * bif vN b then (cI (zP b)) else iZ); let q3 := (dK q4); let q6 := ((bif vN b then zJ b else iZ) * bif vN a then (cI (zP a)) else iZ); let q5 := (dK q6); let q7 := (yI (fun (x1 x2 : Int) => x1 * x2) (zp a) (Zm b) != iZ); let q8 := (bA #[]); let q9 := (YR (fun (x1 x2 : Int) => x1 * x2) (zp a) (Zm b));
 let q10 := (YR (fun (x1 x2 : Int) => x1 * x2) (zp b) (Zm a)); ZY [AV.str a, AV.str b] → lN a ≤ 100000000 ∧ lN b ≤ 100000000 ∧ zY (q1 != iZ) (j2 ∧ q2 ∧ kI ∧ q1 = Y2 a b) (lN a ≤ nM ∧ zN a = iZ ∧ lN b ≤ nM ∧ zN b = iZ ∧ bF (!vN a || zS true (vN a)) (zY (bif vN a then vN b else false) (bF q3 (bF q5 (zY (zH q4 q6) (j2 ∧ (True ∧ kI ∧ (-1 : Int) = WJ a b) ∧ kI ∧ iZ =
 Y2 a b) (bF q3 (bF q5 (zY (zH q6 q4) (j2 ∧ (True ∧ kI ∧ iO = WJ a b) ∧ kI ∧ iZ = Y2 a b) (j2 ∧ q2 ∧ kI ∧ iZ = Y2 a b))))))) (lN a ≤ nM ∧ lN b ≤ nM ∧ lN (zp a) ≤ 100000000 ∧ lN (Zm b) ≤ 100000000 ∧ zY q7 (zY q7 (j2 ∧ q2 ∧ kI ∧ yI (fun (x1 x2 : Int) => x1 * x2) (zp a) (Zm b) = Y2 a b) (0 ≤ 100000000 ∧ 0 ≤
 100000000 ∧ j2 ∧ (True ∧ kI ∧ x3 q8 q8 = WJ a b) ∧ kI ∧ zI q8 q8 = Y2 a b)) (lN (zp b) ≤ 100000000 ∧ lN (Zm a) ≤ 100000000 ∧ zY (yI (fun (x1 x2 : Int) => x1 * x2) (zp b) (Zm a) != iZ) (j2 ∧ q2 ∧ kI ∧ yI (fun (x1 x2 : Int) => x1 * x2) (zp b) (Zm a) = Y2 a b) (lN q9 ≤ 100000000 ∧ lN q10 ≤ 100000000 ∧ j2 ∧ (True ∧ kI ∧ x3 q9 q10 = WJ a b) ∧ kI ∧ zI q9
 q10 = Y2 a b))))) := by
 delta bF dK bA nM cI kI j2 lN iZ iO
 dsimp only
 intro hb
 simp only [sS, dS, Za]
 have ncd := Ya a
 have ncb := Ya b
 refine ⟨hla, hlb, fun h => ?_, fun h => ?_⟩
 ·by_cases h0 : zN a = 0
  ·have h1 : zN b ≠ 0 := fun e => h (by rw [h0, e]; rfl)
   rw [h0]
   exact ⟨rfl, FQ h0 h1⟩
  ·rw [bne_iff_ne.2 h0]
   exact ⟨rfl, F2 h0⟩
 have h0 : zN a = 0 := by
  refine Decidable.byContradiction fun e => ?_
  rw [bne_iff_ne.2 e] at h
  exact e h
 have h1 : zN b = 0 := by rw [h0] at h; exact h
 refine ⟨by omega, h0, by omega, h1, zv.2 ⟨fun c => ?_, fun c => ?_⟩⟩
 ·rw [Bool.and_eq_true] at c
  obtain ⟨a2, a3⟩ := Rx h0 c.1
  obtain ⟨b2, b3⟩ := Rx h1 c.2
  rw [c.1, c.2]
  simp only [cond_true]
  have m1 : (zJ a * (zP b : Int)).natAbs ≤ 999999999 * 999999999 := by rw [Int.natAbs_mul, Int.natAbs_natCast]; exact Nat.mul_le_mul a2 b3
  have m2 : (zJ b * (zP a : Int)).natAbs ≤ 999999999 * 999999999 := by rw [Int.natAbs_mul, Int.natAbs_natCast]; exact Nat.mul_le_mul b2 a3
  obtain ⟨r1, r2⟩ := ZS (n := zJ a * (zP b : Int)) (k := 20) (by omega) (by omega) (by omega)
  obtain ⟨r3, r4⟩ := ZS (n := zJ b * (zP a : Int)) (k := 20) (by omega) (by omega) (by omega)
  have e := Hx h0 h1 r2
  rw [r4] at e
  rw [gH e, e]
  unfold Xk
  generalize zJ a * (zP b : Int) = x at *
  generalize zJ b * (zP a : Int) = y at *
  refine ⟨⟨by omega, by omega⟩, ⟨by omega, by omega⟩, fun h => ?_, fun h => ⟨⟨by omega, by omega⟩, ⟨by omega, by omega⟩, fun h2 => ?_, fun h2 => ?_⟩⟩
  ·rw [(zR _ _).2 h]; exact ⟨rfl, rfl, rfl⟩
  ·rw [show zH x y = false from Bool.eq_false_iff.2 fun e => by have := (zR _ _).1 e; omega, beq_eq_false_iff_ne.2 (by omega)]; exact ⟨rfl, rfl, rfl⟩
  ·rw [show x = y by omega, show zH y y = false from Bool.eq_false_iff.2 fun e => by have := (zR _ _).1 e; omega, beq_self_eq_true]; exact ⟨rfl, rfl, rfl⟩
 ·obtain ⟨p1, p2⟩ := fF h0 h1
  obtain ⟨p3, p4⟩ := fF h1 h0
  have dla := oQ h0
  have dlb := oQ h1
  simp only [p1, p2, p3, p4]
  refine ⟨by omega, by omega, by omega, by omega, fun h => ⟨fun _ => ⟨rfl, eU h0 h1 h⟩, fun h2 => absurd h2 h⟩, fun h => ⟨by omega, by omega, fun h2 => ?_, fun h2 => ?_⟩⟩
  ·have e := Hx h0 h1 h
   unfold WJ
   rw [e, beq_eq_false_iff_ne.2 h2]
   exact ⟨rfl, rfl, rfl⟩
  ·have e := Hx h0 h1 h
   rw [h2] at e
   obtain ⟨q1, q2, _⟩ := og h h2
   have q3 := oS h
   have q4 := oS h2
   rw [gH e, e, q1, q2]
   exact ⟨by omega, by omega, rfl, rfl, rfl⟩
theorem KS {G : List (Nat × Obj)} (hG : zh G) (a : List UInt8) (b : List UInt8) (hla : a.length ≤ 100000000) (hlb : b.length ≤ 100000000) : zT Tryz.prog G 24 [.str a, .str b] (.tup 2 (zt [.i (WJ a b), .i (Y2 a b)])) :=
 zU (T := Ga G) (an := .auto) mixed (pT hG) (Eq.mp (by kernel_rfl) (La G a b hla hlb))
theorem Jo {G : List (Nat × Obj)} (hG : zh G) : zQ Tryz.prog G 24 RP := by
 intro xs ps r h hp
 unfold RP at h
 split at h
 ·skip
  rename_i a b
  cases h
  obtain ⟨q0, q1, -⟩ := Zo hp
  exact weaken (ys := [.str a, .str b]) ⟨zr _, zr _, trivial⟩ (KS hG a b q0 q1)
 ·cases h
end Go.Te

namespace Go.Te
open Go Go.Sx Go.Proofs Go.Ar
set_option maxRecDepth 100000
set_option maxHeartbeats 4000000
def Z2 (a : zL) : Bool := Nat.ble a.length 24 && zN a == 0
theorem Vi {a : zL} (h : Z2 a = true) : Xl 24 a := by
 unfold Z2 at h
 rw [Bool.and_eq_true, beq_iff_eq] at h
 have hl := Nat.le_of_ble_eq_true h.1
 obtain ⟨v1, v2, v3, v4⟩ := mZ h.2
 have c1 := Ya a
 have c2 : (Zm a).length ≤ 24 := by
  have := Vp a
  unfold Zm
  cases zk a with
  | true => rw [cond_true]; omega
  | false => rw [cond_false]; show 1 ≤ 24; decide
 have n1 := TS (Ze.1 v1).1
 have n2 := TS (Ze.1 v2).1
 rw [v3] at n1
 rw [v4, Int.natAbs_natCast] at n2
 exact ⟨h.2, by rw [(Z6 h.2).1]; exact Nat.lt_of_lt_of_le n1 (Nat.pow_le_pow_right (by decide) (by omega)), by rw [(Z6 h.2).2]; exact Nat.lt_of_lt_of_le n2 (Nat.pow_le_pow_right (by decide) c2)⟩
theorem GH {a b : zL} (ha : Xl 140 a) (hb : Xl 140 b) : Y2 a b = 0 ∧ WJ a b = Yg (ZP a) (ZP b) := by
 obtain ⟨m1, m2, m3, m4⟩ := VF ha hb
 have e1 : Y2 a b = 0 := by
  unfold Y2
  rw [ha.1, hb.1, xd m1 (by decide) (by decide), xd m2 (by decide) (by decide)]
  rfl
 refine ⟨e1, ?_⟩
 unfold WJ
 rw [e1]
 exact kZ ha.1 hb.1
def pU : List AV → Option (List zn × AV)
 | [.str a] => some ([], .b (Z2 a))
 | _ => none
theorem Kq (G : List (Nat × Obj)) (a : List UInt8) :
 let q2 := (leB (lZ a) (24 : Int)); let q1 := (!zS true q2 || zS true q2); ZY [AV.str a] → bF q1 ((zS true q2 = true → lN a ≤ 100000000) ∧ bF q1 (bF (!leB (lZ a) (24 : Int) || zS true q2) ((bif leB (lZ a) (24 : Int) then zN a == iZ else false) = Z2 a))) := by
 delta bF lZ lN iZ
 dsimp only
 intro hb
 simp only [sS, dS]
 refine ⟨fun h => by have := (ze _ _).1 h; omega, ?_⟩
 unfold Z2
 congr 1
 rw [Bool.eq_iff_iff, ze, Nat.ble_eq]
 omega
theorem H1 {G : List (Nat × Obj)} (hG : zh G) (a : List UInt8) : zT Tryz.prog G 6 [.str a] (.b (Z2 a)) :=
 zU (T := (Vw G).plus 23 XA) (an := .auto) mixed (zZ.plus zq (uV hG)) (Eq.mp (by kernel_rfl) (Kq G a))
theorem iI {G : List (Nat × Obj)} (hG : zh G) : zQ Tryz.prog G 6 pU := by
 intro xs ps r h hp
 unfold pU at h
 split at h
 ·skip
  rename_i a
  cases h
  exact weaken (ys := [.str a]) ⟨zr _, trivial⟩ (H1 hG a)
 ·cases h
structure gM (r : Pt) : Prop where
 lo : Xl 24 r.n
 hi : Xl 24 r.d
def P3 (r : Pt) : Int := if ZP r.d < ZP r.n then 10 else 0
def Ru : List AV → Option (List zn × AV)
 | [.agg 2 p_r] => some ([.b (ZV (p_r 0) && ZV (p_r 1)), .p (gM (⟨AV.bytes (p_r 0), AV.bytes (p_r 1)⟩ : Pt))], .i (P3 (⟨AV.bytes (p_r 0), AV.bytes (p_r 1)⟩ : Pt)))
 | _ => none
theorem mi (G : List (Nat × Obj)) (r : Pt) (h : gM r) :
 ZY [AV.agg 2 (zi.enc r)] → lN (Pt.n r) ≤ 100000000 ∧ zY (zN (Pt.n r) != iZ) (kI ∧ zN (Pt.n r) = P3 r) (lN (Pt.d r) ≤ 100000000 ∧ zY (zN (Pt.d r) != iZ) (kI ∧ zN (Pt.d r) = P3 r) (lN (Pt.n r) ≤ 100000000 ∧ lN (Pt.d r) ≤ 100000000 ∧ zY (Y2 (Pt.n r) (Pt.d r) != iZ) (kI ∧ Y2 (Pt.n r) (Pt.d r) = P3 r) (zY (zH iZ (WJ (Pt.n r) (Pt.d r))) (kI ∧ (10 : Int) = P3 r) (kI ∧ iZ = P3 r)))) := by
 delta kI lN iZ
 intro hb
 simp only [sS, dS]
 have lo := h.lo.mono (show 24 ≤ 140 by decide)
 have hi := h.hi.mono (show 24 ≤ 140 by decide)
 obtain ⟨e1, e2⟩ := GH lo hi
 have l1 := Sc lo (by decide) (by decide)
 have l2 := Sc hi (by decide) (by decide)
 rw [e1, e2, lo.1, hi.1]
 refine ⟨by omega, fun h => absurd rfl h, fun _ => ⟨by omega, fun h => absurd rfl h, fun _ => ⟨by omega, by omega, fun h => absurd rfl h, fun _ => ⟨fun g => ?_, fun g => ?_⟩⟩⟩⟩
 ·unfold P3; rw [if_pos (X8.1 g)]
 ·unfold P3; rw [if_neg (Rat.not_lt.2 (rN.1 g))]
theorem km {G : List (Nat × Obj)} (hG : zh G) (r : Pt) (h : gM r) : zT Tryz.prog G 7 [yw r] (.i (P3 r)) :=
 zU (T := ((Vw G).plus 23 XA).plus 24 RP) (an := .auto) mixed (zZ.plus (zZ.plus zq (uV hG)) (Jo hG)) (Eq.mp (by kernel_rfl) (mi G r h))
theorem kO {G : List (Nat × Obj)} (hG : zh G) : zQ Tryz.prog G 7 Ru := by
 intro xs ps r h hp
 unfold Ru at h
 split at h
 ·skip
  rename_i p_r
  cases h
  obtain ⟨q0, q1, -⟩ := Zo hp
  exact weaken (ys := [yw (⟨AV.bytes (p_r 0), AV.bytes (p_r 1)⟩ : Pt)]) ⟨zc (x := .agg 2 p_r) (α := Pt) q0, trivial⟩ (km hG (⟨AV.bytes (p_r 0), AV.bytes (p_r 1)⟩ : Pt) q1)
 ·cases h
def vQ (r : Pt) (q : Rat) : Bool := decide (ZP r.n ≤ q) && decide (q ≤ ZP r.d)
structure tp (r : Pt) (x : zL) : Prop where
 lo : Xl 140 r.n
 hi : Xl 140 r.d
 x : Xl 140 x
theorem Hf (G : List (Nat × Obj)) (r : Pt) (x : zL) (h : tp r x) :
 let q1 := (bif bif iZ == iZ then iZ == iZ else false then leB (Yg (ZP (Pt.n r)) (ZP x)) iZ else false); ZY [AV.agg 2 (zi.enc r), AV.xq 1 (fun (x_1 : Nat) => AV.str x) 0] → QK 140 (Pt.n r) x ∧ QK 140 x (Pt.d r) ∧ bF (!zS true q1 || zS true q1) (bF ((!bif bif iZ == iZ then iZ == iZ else false then leB (Yg (ZP (Pt.n r)) (ZP x)) iZ else false) || zS true q1) ((bif bif bif iZ == iZ then iZ == iZ else false then leB (Yg (ZP (Pt.n r)) (ZP x)) iZ else false then leB
 (Yg (ZP x) (ZP (Pt.d r))) iZ else false) = vQ r (ZP x))) := by
 delta bF iZ
 dsimp only
 intro hb
 simp only [sS, dS]
 have key : ∀ p q : Rat, leB (Yg p q) 0 = decide (p ≤ q) := fun p q => by
  rw [Bool.eq_iff_iff, ze, decide_eq_true_iff]
  exact rN
 rw [key, key]
 exact ⟨⟨h.lo, h.x⟩, ⟨h.x, h.hi⟩, rfl⟩
def ME : List AV → Option (List zn × AV)
 | [y, .xq 1 c 0] => some ([.b (yZ Pt y), .b (ZV (c 0)), .p (tp (Zi y) (AV.bytes (c 0)))], .b (vQ (Zi y) (ZP (AV.bytes (c 0)))))
 | _ => none
theorem GZ {G : List (Nat × Obj)} (hG : zh G) : zQ Tryz.prog G 11 ME := by
 intro xs ps r e hp
 unfold ME at e
 split at e
 ·rename_i y c
  cases e
  obtain ⟨q0, -⟩ := Zo hp
  have q1 : ZV (c 0) = true := hp _ (List.mem_cons_of_mem _ List.mem_cons_self)
  have q2 := hp _ (List.mem_cons_of_mem _ (List.mem_cons_of_mem _ List.mem_cons_self))
  exact weaken (ys := [_, .xq 1 (fun _ => .str (AV.bytes (c 0))) 0]) ⟨zc q0, ⟨rfl, rfl, ZA (Wn q1)⟩, trivial⟩ (zU mixed (zZ.plus zq (RQ hG)) (Eq.mp (by kernel_rfl) (Hf G (Zi y) (AV.bytes (c 0)) q2) : T7 Tryz.prog ((Vw G).plus 12 rO) 11 .auto [yw (Zi (α := Pt) y), .xq 1 (fun _ => .str (AV.bytes (c 0))) 0] (.b (vQ (Zi y) (ZP (AV.bytes (c 0)))))))
 ·cases e
def mq : List AV → Option (List zn × AV)
 | [] => some ([], .b true)
 | _ => none
theorem Gb {G : List (Nat × Obj)} (hG : XL G) : zQ Tryz.prog G 8 mq := by
 intro xs ps r e hp
 unfold mq at e
 split at e
 ·cases e
  exact M9 hG
 ·cases e
end Go.Te

namespace Go.Te
open Go Go.Sx Go.Proofs Go.Ar
set_option maxRecDepth 100000
set_option maxHeartbeats 4000000
def Pz (R : zL → zL → zL → Bool) : List AV → Option (List zn × AV)
 | [.agg 2 p, .xq 1 c 0] => some ([.b (ZV (p 0)), .b (ZV (p 1)), .b (ZV (c 0)), .p (tp ⟨AV.bytes (p 0), AV.bytes (p 1)⟩ (AV.bytes (c 0)))], .b (R (AV.bytes (p 0)) (AV.bytes (p 1)) (AV.bytes (c 0))))
 | _ => none
theorem I4 {G : List (Nat × Obj)} (hG : zh G) {R : zL → zL → zL → Bool} (hR : ∀ l h x, R l h x = vQ ⟨l, h⟩ (ZP x)) : zQ Tryz.prog G 11 (Pz R) := by
 intro xs ps r e hp
 unfold Pz at e
 split at e
 ·rename_i p c
  cases e
  have q0 : ZV (p 0) = true := hp _ List.mem_cons_self
  have q1 : ZV (p 1) = true := hp _ (List.mem_cons_of_mem _ List.mem_cons_self)
  have q2 : ZV (c 0) = true := hp _ (List.mem_cons_of_mem _ (List.mem_cons_of_mem _ List.mem_cons_self))
  have q3 := hp _ (List.mem_cons_of_mem _ (List.mem_cons_of_mem _ (List.mem_cons_of_mem _ List.mem_cons_self)))
  rw [hR]
  have hy : yZ Pt (.agg 2 p) = true := by
   show (ZV (p 0) && ZV (p 1)) = true
   rw [q0, q1]; rfl
  refine GZ hG _ _ _ (show ME [.agg 2 p, .xq 1 c 0] = _ from rfl) fun k hk => ?_
  rcases List.mem_cons.1 hk with rfl | hk
  ·exact hy
  ·rcases List.mem_cons.1 hk with rfl | hk
   ·exact q2
   ·obtain rfl := List.mem_singleton.1 hk
    exact q3
 ·cases e
noncomputable def EW (G : List (Nat × Obj)) (R : zL → zL → zL → Bool) : Tb := (((((Vw G).plus 6 pU).plus 7 Ru).plus 9 Mi).plus 10 oT).plus 11 (Pz R) |>.plus 8 mq
theorem NQ {G : List (Nat × Obj)} (hG : XL G) {R : zL → zL → zL → Bool} (hR : ∀ l h x, R l h x = vQ ⟨l, h⟩ (ZP x)) : zZ Tryz.prog (EW G R) := zZ.plus (zZ.plus (zZ.plus (zZ.plus (zZ.plus (zZ.plus zq (iI hG.tab)) (kO hG.tab)) (G4 hG.tab)) (Ji hG.tab)) (I4 hG.tab hR)) (Gb hG)
structure YM where
 lo : zL
 hi : zL
 is : Bool
theorem str_eq {a b : zL} (ha : zN a = 0) (hb : zN b = 0) (h : ZP a = ZP b) : a = b := by rw [← tu ha, h, tu hb]
theorem Mh {a b : Pt} (ha : x6 a) (hb : x6 b) : Xf b a = Xf a b ∧ vR b a = vR a b := by
 have e1 : Qk b a = Qk a b := by
  unfold Qk
  by_cases h : ZP a.n < ZP b.n
  ·rw [if_pos h, if_neg (by grind)]
  ·rw [if_neg h]
   by_cases h2 : ZP b.n < ZP a.n
   ·rw [if_pos h2]
   ·rw [if_neg h2]
    exact str_eq hb.lo.1 ha.lo.1 (by grind)
 have e2 : QJ b a = QJ a b := by
  unfold QJ
  by_cases h : ZP b.d < ZP a.d
  ·rw [if_pos h, if_neg (by grind)]
  ·rw [if_neg h]
   by_cases h2 : ZP a.d < ZP b.d
   ·rw [if_pos h2]
   ·rw [if_neg h2]
    exact str_eq hb.hi.1 ha.hi.1 (by grind)
 have e3 : vR b a = vR a b := by unfold vR; rw [e1, e2]
 exact ⟨by unfold Xf; rw [e1, e2, e3], e3⟩
theorem j7 (a b : Pt) (q : Rat) : (vQ a q && vQ b q) = (vR a b && vQ (Xf a b) q) := by
 have eLo : ZP (Qk a b) ≤ q ↔ ZP a.n ≤ q ∧ ZP b.n ≤ q := by
  unfold Qk
  split <;> constructor <;> intro h <;> grind
 have eHi : q ≤ ZP (QJ a b) ↔ q ≤ ZP a.d ∧ q ≤ ZP b.d := by
  unfold QJ
  split <;> constructor <;> intro h <;> grind
 rw [Bool.eq_iff_iff]
 cases hi : vR a b with
 | true =>
  have e : Xf a b = ⟨Qk a b, QJ a b⟩ := by unfold Xf; rw [hi]; rfl
  rw [e]
  simp only [vQ, Bool.and_eq_true, decide_eq_true_eq, true_and]
  rw [eLo, eHi]
  grind
 | false =>
  simp only [vQ, Bool.and_eq_true, decide_eq_true_eq]
  refine ⟨fun h => ?_, fun h => by cases h.1⟩
  exfalso
  have h1 := eLo.2 ⟨h.1.1, h.2.1⟩
  have h2 := eHi.2 ⟨h.1.2, h.2.2⟩
  have : vR a b = true := decide_eq_true (Rat.le_trans h1 h2)
  rw [hi] at this
  cases this
theorem OZ {a b : Pt} (ha : x6 a) (hb : x6 b) (h : vR a b = true) : x6 (Xf a b) := by
 have e : Xf a b = ⟨Qk a b, QJ a b⟩ := by unfold Xf; rw [h]; rfl
 rw [e]
 refine ⟨?_, ?_, of_decide_eq_true h⟩
 ·show Xl 140 (Qk a b)
  unfold Qk
  split
  ·exact hb.lo
  ·exact ha.lo
 ·show Xl 140 (QJ a b)
  unfold QJ
  split
  ·exact hb.hi
  ·exact ha.hi
def Ej : AV → Nat
 | .np k _ => k
 | _ => 0
def Hr (a b : Pt) : Z9 :=
 .two .auto (.two .auto (.two .auto (.join YM (fun σ z => [(3, σ.tm 3), (4, σ.tm 4), (5, σ.tm 5), (7, σ.tm 7), (8, .b z.is), (9, .i 0), (10, .np σ.nb 0), (11, .b z.is), (12, .i 0)]) (fun σ z => [(Ej (σ.tm 7), .box 24 2 (zt [.str z.lo, .str z.hi])), (σ.nb, .box 24 2 (zt [.str z.lo, .str z.hi]))]) 1 (fun σ z => z.lo = (Xf a b).n ∧ z.hi = (Xf a b).d ∧ z.is = vR a b) .auto (.two .auto (.join Unit (fun σ z => [(3, σ.tm 3), (4, σ.tm 4), (7, σ.tm 7), (8, σ.tm 8), (13, .fn (.func 11) 0 (fun _ => .junk) 1 (fun _ => σ.tm 5))]) (fun σ z => []) 0 (fun σ z => True) .auto .auto)))))
theorem Iw (G : List (Nat × Obj)) (R : zL → zL → zL → Bool) (hR : ∀ l h x, R l h x = vQ ⟨l, h⟩ (ZP x)) (a b : Pt) (x : zL) :
 let q1 := (!zS false !Z2 (Pt.n a) || zS false !Z2 (Pt.n a)); let q3 := (bif !Z2 (Pt.n a) then true else !Z2 (Pt.d a)); let q2 := (!zS false q3 || zS false q3); let q5 := (bif bif !Z2 (Pt.n a) then true else !Z2 (Pt.d a) then true else !Z2 (Pt.n b)); let q4 := (!zS false q5 || zS false q5); let q7 := (bif bif bif !Z2 (Pt.n a) then true else !Z2 (Pt.d a) then true else !Z2 (Pt.n b) then true else !Z2 (Pt.d b)); let q6 := (!zS false q7 || zS false q7); let q9 := (bif bif bif bif !Z2 (Pt.n a) then true else !Z2 (Pt.d a) then true else !Z2 (Pt.n b) then
 true else !Z2 (Pt.d b) then true else !Z2 x); let q8 := (!zS false q9 || zS false q9); let q10 := (Pt.mk (AV.bytes (AV.str (Pt.n a))) (AV.bytes (AV.str (Pt.d a)))); let q12 := (bif bif bif bif bif !Z2 (Pt.n a) then true else !Z2 (Pt.d a) then true else !Z2 (Pt.n b) then true else !Z2 (Pt.d b) then true else !Z2 x then true else P3 q10 != iZ); let q11 := (!zS false q12 || zS false q12); let q13 := (Pt.mk (AV.bytes (AV.str (Pt.n b))) (AV.bytes (AV.str (Pt.d b)))); let q14 := (((24 = 24 ∧ 2 = 2 ∧ Pt.n a = Pt.n a ∧ Pt.d a = Pt.d a) ∧ 24 = 24 ∧ 2 = 2 ∧ Pt.n b = Pt.n b ∧
 Pt.d b = Pt.d b) ∧ 22 = 22 ∧ 1 = 1 ∧ x = x); let q15 := (Xf q10 q13); let q16 := (Xf q13 q10); let q26 := (R (AV.bytes (AV.str (Pt.n a))) (AV.bytes (AV.str (Pt.d a))) (AV.bytes (AV.str x))); let q25 := (!zS true q26 || zS true q26); let q28 := (bif R (AV.bytes (AV.str (Pt.n a))) (AV.bytes (AV.str (Pt.d a))) (AV.bytes (AV.str x)) then R (AV.bytes (AV.str (Pt.n b))) (AV.bytes (AV.str (Pt.d b))) (AV.bytes (AV.str x)) else false); ZY [AV.agg 2 (zi.enc a), AV.agg 2 (zi.enc b), AV.str x] → bF q1 (bF q1 (bF q1 (bF (!!!Z2 (Pt.n a) || zS false !Z2 (Pt.n a)) (zY q2
 (bF q2 (bF q2 (bF ((!!bif !Z2 (Pt.n a) then true else !Z2 (Pt.d a)) || zS false q3) (bF q4 (bF q4 (bF q4 (bF ((!!bif bif !Z2 (Pt.n a) then true else !Z2 (Pt.d a) then true else !Z2 (Pt.n b)) || zS false q5) (bF q6 (bF q6 (bF ((!!bif bif bif !Z2 (Pt.n a) then true else !Z2 (Pt.d a) then true else !Z2 (Pt.n b) then true else !Z2 (Pt.d b)) || zS false q7) (bF q8 (bF (!zS false q9 || ZV (AV.str (Pt.n a)) && ZV (AV.str (Pt.d a))) ((zS false q9 = true → gM q10) ∧ bF q8 (bF ((!!bif bif bif bif !Z2 (Pt.n a)
 then true else !Z2 (Pt.d a) then true else !Z2 (Pt.n b) then true else !Z2 (Pt.d b) then true else !Z2 x) || zS false q9) (bF q11 (bF (!zS false q12 || ZV (AV.str (Pt.n b)) && ZV (AV.str (Pt.d b))) ((zS false q12 = true → gM q13) ∧ bF q11 (bF ((!!bif bif bif bif bif !Z2 (Pt.n a) then true else !Z2 (Pt.d a) then true else !Z2 (Pt.n b) then true else !Z2 (Pt.d b) then true else !Z2 x then true else P3 q10 != iZ) || zS false q12) (zY (bif bif bif bif bif bif !Z2 (Pt.n a) then true else !Z2 (Pt.d a) then true else !Z2 (Pt.n b) then
 true else !Z2 (Pt.d b) then true else !Z2 x then true else P3 q10 != iZ then true else P3 q13 != iZ) (true = true) (Mo q10 q13 ∧ (Mo q13 q10 ∧ ∃ (z : YM), ((YM.lo z = Pt.n (Xf a b) ∧ YM.hi z = Pt.d (Xf a b) ∧ YM.is z = vR a b) ∧ (nat_lit 0 = 0 ∧ 0 = 0) ∧ (nat_lit 1 = 1 ∧ 0 = 0) ∧ (nat_lit 2 = 2 ∧ 0 = 0) ∧ (nat_lit 3 = 3 ∧ 0 = 0) ∧ vR q10 q13 = YM.is z ∧ (kI ∧ iZ = iZ) ∧ (nat_lit 4 = 4 ∧ 0 = 0) ∧ vR q13 q10 = YM.is z ∧ kI ∧ iZ = iZ) ∧ (q14 ∧ (24 : TypeId) = 24 ∧ 2 = 2 ∧ Pt.n q15 = YM.lo z ∧ Pt.d q15 =
 YM.hi z) ∧ (24 : TypeId) = 24 ∧ 2 = 2 ∧ Pt.n q16 = YM.lo z ∧ Pt.d q16 = YM.hi z) ∧ ∀ (z : YM), let q19 := (YM.lo z == YM.lo z && (YM.hi z == YM.hi z && true)); let q18 := (bif bif iZ != iZ then true else iZ != iZ then true else !q19); let q17 := (!zS false q18 || zS false q18); let q21 := (bif bif bif iZ != iZ then true else iZ != iZ then true else !q19 then true else !YM.is z == YM.is z); let q20 := (!zS false q21 || zS false q21); let q23 := (zS false q21 && zS true (YM.is z)); let q22 := (!q23 || zS false q21 &&
 zS true (YM.is z)); let q24 := (Pt.mk (AV.bytes (AV.str (YM.lo z))) (AV.bytes (AV.str (YM.hi z)))); let q27 := (!zS true (YM.is z) || zS true (YM.is z)); YM.lo z = Pt.n (Xf a b) ∧ YM.hi z = Pt.d (Xf a b) ∧ YM.is z = vR a b → bF q17 (bF q17 (bF ((!!bif bif iZ != iZ then true else iZ != iZ then true else !q19) || zS false q18) (bF q20 (bF q22 (bF (!q23 || ZV (AV.str (YM.lo z)) && ZV (AV.str (YM.hi z))) ((q23 = true → x6 q24) ∧ bF q22 (bF q20 (bF (!zS false q21 || (!YM.is z || zS false q21 && zS
 true (YM.is z))) (bF ((!!bif bif bif iZ != iZ then true else iZ != iZ then true else !q19 then true else !YM.is z == YM.is z) || zS false q21) (zY (bif bif bif bif iZ != iZ then true else iZ != iZ then true else !q19 then true else !YM.is z == YM.is z then true else bif YM.is z then iZ != iZ else false) (false = true) ((∃ (z_1 : Unit), (True ∧ (nat_lit 0 = 0 ∧ 0 = 0) ∧ (nat_lit 1 = 1 ∧ 0 = 0) ∧ (nat_lit 3 = 3 ∧ 0 = 0) ∧ YM.is z = YM.is z ∧ Fn.func (11 : FuncId) = Fn.func 11 ∧ 0 = 0 ∧ 1 = 1 ∧ True ∧ nat_lit 2
 = 2 ∧ 0 = 0) ∧ (q14 ∧ 24 = 24 ∧ 2 = 2 ∧ YM.lo z = YM.lo z ∧ YM.hi z = YM.hi z) ∧ 24 = 24 ∧ 2 = 2 ∧ YM.lo z = YM.lo z ∧ YM.hi z = YM.hi z) ∧ ∀ (z_1 : Unit), True → tp q10 (AV.bytes (AV.str x)) ∧ bF q25 (bF q25 (bF (!zS true q26 || ZV (AV.str (Pt.n b))) (bF (!zS true q26 || ZV (AV.str (Pt.d b))) (bF (!zS true q26 || ZV (AV.str x)) ((zS true q26 = true → tp q13 (AV.bytes (AV.str x))) ∧ bF (!R (AV.bytes (AV.str (Pt.n a))) (AV.bytes (AV.str (Pt.d a))) (AV.bytes (AV.str x)) || zS true q26) (bF q27 (bF q27 (bF (!zS true (YM.is z)
 || ZV (AV.str (YM.lo z))) (bF (!zS true (YM.is z) || ZV (AV.str (YM.hi z))) (bF (!zS true (YM.is z) || ZV (AV.str x)) ((zS true (YM.is z) = true → tp q24 (AV.bytes (AV.str x))) ∧ bF (!YM.is z || zS true (YM.is z)) (bF ((!q28 == bif YM.is z then R (AV.bytes (AV.str (YM.lo z))) (AV.bytes (AV.str (YM.hi z))) (AV.bytes (AV.str x)) else false) || zS true (q28 == bif YM.is z then R (AV.bytes (AV.str (YM.lo z))) (AV.bytes (AV.str (YM.hi z))) (AV.bytes (AV.str x)) else false)) ((bif q28 == bif YM.is z then R (AV.bytes (AV.str (YM.lo z))) (AV.bytes
 (AV.str (YM.hi z))) (AV.bytes (AV.str x)) else false then true else false) = true)))))))))))))))))))))))))))))))))))))))))))) False)))) := by
 delta bF kI iZ
 dsimp only
 intro hb
 simp only [↓ZE, ↓ZR, row_one]
 simp only [sS, dS]
 have bs : ∀ s : zL, (AV.str s).bytes = s := fun _ => rfl
 have is : ∀ s : zL, ZV (.str s) = true := fun _ => rfl
 simp only [bs, is, Bool.and_self, Bool.or_true]
 have up : ∀ {s : zL}, Z2 s = true → Xl 140 s := fun h => (Vi h).mono (by decide)
 refine zv.2 ⟨fun _ => ⟨fun g => ?_, zv.2 ⟨fun _ => ⟨fun g => ?_, zv.2 ⟨fun _ => trivial, fun c => ?_⟩⟩, fun c => (by cases c)⟩⟩, fun c => (by cases c)⟩
 ·simp only [Bool.not_or, Bool.not_not, Bool.and_eq_true] at g
  exact ⟨Vi g.1.1.1.1, Vi g.1.1.1.2⟩
 ·simp only [Bool.not_or, Bool.not_not, Bool.and_eq_true] at g
  exact ⟨Vi g.1.1.1.2, Vi g.1.1.2⟩
 simp only [Bool.or_eq_false_iff, Bool.not_eq_false', bne_eq_false_iff_eq] at c
 obtain ⟨⟨⟨⟨⟨⟨n1, n2⟩, n3⟩, n4⟩, n5⟩, r1⟩, r2⟩ := c
 have rle : ∀ r : Pt, P3 r = 0 → ZP r.n ≤ ZP r.d := fun r h => Rat.not_lt.1 fun e => by
  unfold P3 at h
  rw [if_pos e] at h
  exact absurd h (by decide)
 have ha : x6 a := ⟨up n1, up n2, rle a r1⟩
 have hc : x6 b := ⟨up n3, up n4, rle b r2⟩
 obtain ⟨m1, m2⟩ := Mh ha hc
 have ea : (⟨a.n, a.d⟩ : Pt) = a := rfl
 have eb : (⟨b.n, b.d⟩ : Pt) = b := rfl
 rw [ea, eb, m1, m2]
 refine ⟨⟨ha, hc⟩, ⟨⟨hc, ha⟩, ⟨(Xf a b).n, (Xf a b).d, vR a b⟩, ⟨⟨rfl, rfl, rfl⟩, rfl, rfl⟩, ⟨rfl, rfl⟩, rfl, rfl⟩, fun z ⟨z1, z2, z3⟩ => ?_⟩
 have ez : (⟨z.lo, z.hi⟩ : Pt) = Xf a b := by rw [z1, z2]
 have f0 : ((0 : Int) != 0 || (0 : Int) != 0 || !(z.lo == z.lo && (z.hi == z.hi && true)) || !z.is == z.is) = false := by simp
 have hz : tp ⟨z.lo, z.hi⟩ x ∨ z.is = false := by
  cases e : z.is with
  | false => exact Or.inr rfl
  | true =>
   refine Or.inl ?_
   have := OZ ha hc (by rw [← z3]; exact e)
   rw [← ez] at this
   exact ⟨this.lo, this.hi, up n5⟩
 have hz2 : z.is = true → x6 ⟨z.lo, z.hi⟩ := fun e => by
  have := OZ ha hc (by rw [← z3]; exact e)
  rw [← ez] at this
  exact this
 have fin : ((R a.n a.d x && R b.n b.d x) == (z.is && R z.lo z.hi x) && true) = true := by
  have h := j7 a b (ZP x)
  rw [hR, hR, hR, ez, z3]
  show ((vQ a (ZP x) && vQ b (ZP x)) == _ && true) = true
  rw [h]
  simp
 have kz : (false || (z.is && ((0 : Int) != 0))) = false := by cases z.is <;> rfl
 rw [f0]
 refine zv.2 ⟨fun _ => ⟨fun g => hz2 (by simpa using g), zv.2 ⟨fun _ => zv.2 ⟨fun g => (by rw [kz] at g; cases g), fun _ => ⟨⟨(), trivial⟩, fun _ _ => ⟨⟨ha.lo, ha.hi, up n5⟩, zv.2 ⟨fun _ => zv.2 ⟨fun _ => zv.2 ⟨fun _ => ⟨fun _ => ⟨hc.lo, hc.hi, up n5⟩, zv.2 ⟨fun _ => zv.2 ⟨fun _ => zv.2 ⟨fun _ => ⟨fun e => hz.resolve_right (by rw [e]; decide), fin⟩, fun e => (by cases e)⟩, fun e => (by cases e)⟩, fun e => (by cases e)⟩⟩, fun e => (by cases e)⟩, fun e => (by cases e)⟩, fun e => (by cases e)⟩⟩⟩⟩, fun e => ?_⟩⟩, fun e => (by cases e)⟩
 cases hi : z.is <;> rw [hi] at e <;> cases e
theorem Gg {G : List (Nat × Obj)} (hG : XL G) (a b : Pt) (x : zL) : zT Tryz.prog G 3 [yw a, yw b, .str x] (.b true) :=
 zU mixed (NQ hG (R := fun l h x => vQ ⟨l, h⟩ (ZP x)) fun _ _ _ => rfl) (Eq.mp (by kernel_rfl) (Iw G (fun l h x => vQ ⟨l, h⟩ (ZP x)) (fun _ _ _ => rfl) a b x) : T7 Tryz.prog (EW G fun l h x => vQ ⟨l, h⟩ (ZP x)) 3 (Hr a b) [yw a, yw b, .str x] (.b true))
end Go.Te

namespace Go.Proofs
open Go.Shelf
end Go.Proofs
namespace Go.Te
open Go Go.Sx Go.Proofs Go.RowKit Go.Shelf Go.Sort
set_option maxHeartbeats 4000000
set_option maxRecDepth 100000
end Go.Te

namespace Go.Te
open Go Go.Sx Go.Proofs Go.Ar Go.RowKit Go.Shelf
set_option maxRecDepth 100000
set_option maxHeartbeats 4000000
abbrev RM : Nat := 99999999
end Go.Te

namespace Go.Te
open Go Go.Sx Go.Proofs Go.Ar Go.RowKit
set_option maxRecDepth 100000
set_option maxHeartbeats 4000000
structure Ez (l : List Tm) : Prop where
 len : l.length ≤ 256
 cs : ∀ t ∈ l, bq 60 t.c
 qs : ∀ t ∈ l, t.q ≠ 0 → EJ (YA t.q)
 root : inT RM l
 cls : ∀ k, ∀ x ∈ WF (vP (l.take k)), bq 60 x.c
 out : (JL l).length ≤ 16
end Go.Te

namespace Go.Te
open Go Go.Sx Go.Proofs Go.Ar
set_option maxRecDepth 100000
set_option maxHeartbeats 4000000
structure ED (t : Tm) : Prop where
 ne : t.c ≠ 0
 bc : bq 60 t.c
 nat : Yr RM t
 Xc : Xc (mQ t.q) = (1, mQ t.q)
structure fH (s : List Tm) : Prop where
 g : gS RM s
 len : s.length ≤ 16
 bc : ∀ x ∈ s, bq 60 x.c
end Go.Te

namespace Go.Te
open Go Go.Sx Go.Proofs Go.Ar
set_option maxRecDepth 100000
set_option maxHeartbeats 4000000
structure Ee (s t : List Tm) : Prop where
 fs : fH s
 ft : fH t
 made : Ez (s ++ Rl (-1) t)
 no : JL (s ++ Rl (-1) t) = []
end Go.Te

namespace Go.Te
open Go Go.Sx Go.Proofs Go.Ar
set_option maxRecDepth 100000
set_option maxHeartbeats 4000000
def iy (t : Tm) (p : Nat) : Nat := t.c.num.natAbs * t.c.num.natAbs * mQ t.q * 10 ^ (2 * p)
def EG (t : Tm) (p : Nat) : Int :=
 if 0 ≤ t.c.num then ((Yk (iy t p) / t.c.den : Nat) : Int)
 else -(if Yk (iy t p) * Yk (iy t p) = iy t p ∧ Yk (iy t p) % t.c.den = 0 then ((Yk (iy t p) / t.c.den : Nat) : Int) else ((Yk (iy t p) / t.c.den : Nat) : Int) + 1)
structure FH (t : Tm) (p : Int) : Prop where
 ne : t.c ≠ 0
 bc : bq 60 t.c
 nat : Yr RM t
 pl : 0 ≤ p ∧ p ≤ 64
 sq : iy t p.toNat < 10 ^ 215
def fP (s : List Tm) (p : Nat) : Int := (s.map fun t => EG t p).sum
def R7 (s : List Tm) (p : Nat) : Int := if 0 < fP s p then 1 else if fP s p + s.length < 0 then -1 else 0
def F4 (s : List Tm) : Int := if R7 s 4 = 0 then (if R7 s 16 = 0 then R7 s 64 else R7 s 16) else R7 s 4
structure eF (s : List Tm) : Prop where
 ne : 0 < s.length
 len : s.length ≤ 16
 a : ∀ t ∈ s, FH t 4
 b : R7 s 4 = 0 → ∀ t ∈ s, FH t 16
 c : R7 s 4 = 0 → R7 s 16 = 0 → ∀ t ∈ s, FH t 64
 dec : F4 s ≠ 0
structure EE (s : List Tm) : Prop where
 h : s = [] ∨ eF s
structure EH (s t : List Tm) : Prop where
 fs : fH s
 ft : fH t
 made : Ez (s ++ Rl (-1) t)
 sg : eF (JL (s ++ Rl (-1) t))
end Go.Te
