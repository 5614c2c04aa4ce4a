/- kingpostref01: differences, products, division by a limb. -/
import Derived.Test.YtgpbohfbhfbelaaGreatDoorTkQc
import Derived.Test.YtgpbohfbhfbelaaGreatDoorArA
import Derived.Test.YtgpbohfbhfbelaaGreatDoorArM
import Derived.Test.YtgpbohfbhfbelaaGreatDoorArN
import Derived.Test.YtgpbohfbhfbelaaGreatDoorTkS
import Derived.Test.YtgpbohfbhfbelaaGreatDoorArO
set_option linter.unusedSimpArgs false
set_option linter.unusedVariables false
namespace Go.Te
open Go Go.Sx Go.Proofs Go.Ar
set_option maxRecDepth 100000
set_option maxHeartbeats 4000000
def Pf (x y : List Int) : Z9 :=
 .two .auto (.two .auto (.two .auto (.two (.two .auto (.one (.loop Zz (fun σ z => [(0, σ.tm 0), (1, σ.tm 1), (5, .ns σ.nb 0 z.out.length), (6, .i z.c), (7, .i (z.out.length : Int))]) (fun σ z => [(σ.nb, WZ z.out)]) 1 (fun σ z => wK 1000000 x y z.out.length z.out z.c ∧ z.out.length ≤ x.length) (fun σ z => x.length - z.out.length) .auto))) .auto)))
def W5 : List AV → Option (List zn × AV)
 | [x_x, x_y] => some ([.b (Zy Int x_x), .b (Zy Int x_y), .p (z8 1000000 (zW x_x)), .p (z8 1000000 (zW x_y)), .p ((zW x_y).length ≤ (zW x_x).length), .p ((zW x_x).length ≤ 1000000000), .p (zX 1000000 (zW x_y) ≤ zX 1000000 (zW x_x))], ZF (zw 1000000 (zX 1000000 (zW x_x) - zX 1000000 (zW x_y)).toNat))
 | _ => none
theorem Qf (x : List Int) (y : List Int) (hx : z8 1000000 x) (hy : z8 1000000 y) (hl : y.length ≤ x.length) (hlx : x.length ≤ 1000000000) (hle : zX 1000000 y ≤ zX 1000000 x) :
 let q1 := (xI x); let q2 := (xI y); let q4 := (zW q2); let q10 := (zw 1000000 (Int.toNat (zX (1000000 : Int) x - zX (1000000 : Int) y))); ZY [xI x, xI y] → (∃ (z : Zz), ((wK (1000000 : Int) x y (lN (Zz.out z)) (Zz.out z) (Zz.c z) ∧
 lN (Zz.out z) ≤ lN x) ∧ zB q1 q1 ∧ zB q2 q2 ∧ (some (wP Nat) = some (wP Nat) ∧ 0 = 0 ∧ lN (Zz.out z) = 0 ∧ true = true ∧ 0 = 0) ∧ (kI ∧ iZ = Zz.c z) ∧ kI ∧ iZ = (lZ (Zz.out z))) ∧ lN (Zz.out z) = 0) ∧ ∀ (z : Zz), let q3 := (Int.toNat (lZ (Zz.out z))); let q5 := (gD x q3 zi.dflt - gD q4 q3 iZ - Zz.c z); let q6 := (gD x q3 zi.dflt - gD q4 q3 iZ - Zz.c z + (1000000 : Int)); let q7 := (DB.db ((lN (Zz.out z) + 1) * 8
 ≤ 140737488355328)); let q8 := (dK ((lZ (Zz.out z)) + iO)); let q9 := (AV.xl false 1 (lN (Zz.out z)) fun i j => aI (gD (Zz.out z) (0 + i) iZ)); let q11 := (zO (zW q9)); wK (1000000 : Int) x y (lN (Zz.out z)) (Zz.out z) (Zz.c z) ∧ lN (Zz.out z) ≤ lN x → zY (zH (lZ (Zz.out z)) (lZ x)) (bF (DB.db (iZ ≤ (lZ (Zz.out z)) ∧ (lZ (Zz.out z)) < (lZ x))) (zY (Zy Int q2)
 (iZ ≤ (lZ (Zz.out z)) ∧ bF (dK (gD x q3 zi.dflt - gD q4 q3 iZ)) (bF (dK q5) (zY (zH q5 iZ) (bF (dK q6) (bF q7 (bF q8 (∃ (z' : Zz), (((wK (1000000 : Int) x y (lN (Zz.out z')) (Zz.out z') (Zz.c z') ∧ lN (Zz.out z') ≤ lN x) ∧ lN x - lN (Zz.out z') < lN x - lN (Zz.out z)) ∧ zB q1 q1 ∧ zB q2 q2 ∧ (nat_lit 0 = 0 ∧ 0 = 0 ∧ lN (Zz.out z') = lN (Zz.out z) + 1) ∧ (kI ∧ (1 :
 Int) = Zz.c z') ∧ kI ∧ (lZ (Zz.out z)) + iO = (lZ (Zz.out z'))) ∧ (3 : TypeId) = 3 ∧ 1 = 1 ∧ lN (Zz.out z') = lN (Zz.out z) + 1 ∧ ∀ (i j : Nat), i < lN (Zz.out z) + 1 → j < 1 → zB (if i < lN (Zz.out z) then aI (gD (Zz.out z) i iZ) else Sx.rowAt [fun (x_1 : Nat) => aI q6] (i - lN (Zz.out z)) j) (aI (gD (Zz.out z') i iZ)))))) (bF q7 (bF q8 (∃ (z' : Zz), (((wK (1000000 :
 Int) x y (lN (Zz.out z')) (Zz.out z') (Zz.c z') ∧ lN (Zz.out z') ≤ lN x) ∧ lN x - lN (Zz.out z') < lN x - lN (Zz.out z)) ∧ zB q1 q1 ∧ zB q2 q2 ∧ (nat_lit 0 = 0 ∧ 0 = 0 ∧ lN (Zz.out z') = lN (Zz.out z) + 1) ∧ (kI ∧ iZ = Zz.c z') ∧ kI ∧ (lZ (Zz.out z)) + iO = (lZ (Zz.out z'))) ∧ (3 : TypeId) = 3 ∧ 1 = 1 ∧ lN (Zz.out z') = lN (Zz.out z) + 1 ∧ ∀ (i j : Nat), i < lN (Zz.out z) + 1 → j < 1 → zB
 (if i < lN (Zz.out z) then aI (gD (Zz.out z) i iZ) else Sx.rowAt [fun (x_1 : Nat) => aI q5] (i - lN (Zz.out z)) j) (aI (gD (Zz.out z') i iZ)))))))) False)) (bF (Zy Int q9) ((false = true → false = true) ∧ 1 = 1 ∧ lN q10 = lN q11 ∧ ∀ (i j : Nat), i < lN q11 → j < 1 → kI ∧ gD q11 i zi.dflt = gD q10 i zi.dflt)) := by
 delta bF dK xI kI lZ lN gD iZ iO aI
 dsimp only
 intro hb
 have e0 : (zi.dflt : Int) = 0 := rfl
 simp only [↓ZE, ↓ZR, row_one]
 simp only [sS, dS, e0]
 have hx1 : x.length ≤ 9223372036854775807 := hb.1.1
 refine ⟨⟨⟨[], 0⟩, ⟨⟨.zero _ _ _, by simp⟩, rfl, rfl, rfl⟩, rfl⟩, fun z ⟨z1, z2⟩ => ⟨fun hz => ?_, fun hz => ?_⟩⟩
 ·have g1 := hx.get (by omega) z.out.length
  have g2 := hy.get (by omega) z.out.length
  have c0 := z1.c0
  have c1 := z1.c1
  have hs := wK.step (by omega) hx hy z1
  refine ⟨⟨by omega, hz⟩, by omega, ⟨by omega, by omega⟩, ⟨by omega, by omega⟩, fun hn => ⟨⟨by omega, by omega⟩, by omega, ⟨by omega, by omega⟩, ⟨_, 1⟩, ⟨⟨⟨by simpa using hs.2 hn, by simp; omega⟩, by simp; omega⟩, by simp, rfl, by simp⟩, by simp, fun i j => Uv _ _ i j⟩, fun hn => ⟨by omega, ⟨by omega, by omega⟩, ⟨_, 0⟩, ⟨⟨⟨by simpa using hs.1 hn, by simp; omega⟩, by simp; omega⟩, by simp, rfl, by simp⟩, by simp, fun i j => Uv _ _ i j⟩⟩
 ·have he := z1.end_ (b := 1000000) (by omega) (by omega) (by omega) hle
  rw [he]
  exact ⟨fun h => h, rfl, fun _ _ _ _ => rfl⟩
theorem NL (x : List Int) (y : List Int) (hx : z8 1000000 x) (hy : z8 1000000 y) (hl : y.length ≤ x.length) (hlx : x.length ≤ 1000000000) (hle : zX 1000000 y ≤ zX 1000000 x) : zT Tryz.prog [] 176 [ZF x, ZF y] (ZF (zw 1000000 (zX 1000000 x - zX 1000000 y).toNat)) :=
 zU (T := (T0.plus 173 xj).plus 175 X4) (an := Pf x y) mixed (zZ.plus (zZ.plus zq wZ) Va) (Eq.mp (by kernel_rfl) (Qf x y hx hy hl hlx hle))
theorem sI : zQ Tryz.prog [] 176 W5 := by
 intro xs ps r h hp
 unfold W5 at h
 split at h
 ·skip
  rename_i x_x x_y
  cases h
  obtain ⟨q0, q1, q2, q3, q4, q5, q6, -⟩ := Zo hp
  exact weaken (ys := [ZF (zW x_x), ZF (zW x_y)]) ⟨za q0, za q1, trivial⟩ (NL (zW x_x) (zW x_y) q2 q3 q4 q5 q6)
 ·cases h
def QA (x y : List Int) : Z9 :=
 .two .auto (.two .auto (.two (.two .auto (.one (.loop Zk (fun σ z => [(0, σ.tm 0), (1, σ.tm 1), (5, σ.tm 5), (6, .i (z.i : Int))]) (fun σ z => [(yd (σ.tm 5), WZ z.out)]) 0 (fun σ z => XK 1000000 x y z.i z.out ∧ z.i ≤ x.length) (fun σ z => x.length - z.i) (.two .auto (.two (.one (.two .auto (.two .auto (.one (.loop ZO (fun σ z => [(0, σ.tm 0), (1, σ.tm 1), (5, σ.tm 5), (6, σ.tm 6), (7, .i z.c), (8, .i (z.k : Int))]) (fun σ z => [(yd (σ.tm 5), WZ z.out)]) 0 (fun σ z => MulK 1000000 x y (AV.int (σ.tm 6)).toNat z.k z.out z.c ∧ z.k ≤ y.length + 1 ∧ (z.k = y.length + 1 → z.c = 0)) (fun σ z => y.length + 1 - z.k) .auto))))) .auto))))) .auto))
def vy : List AV → Option (List zn × AV)
 | [x_x, x_y] => some ([.b (Zy Int x_x), .b (Zy Int x_y), .p (z8 1000000 (zW x_x)), .p (z8 1000000 (zW x_y)), .p ((zW x_x).length ≤ 1000000000), .p ((zW x_y).length ≤ 1000000000)], ZF (zw 1000000 (zX 1000000 (zW x_x) * zX 1000000 (zW x_y)).toNat))
 | _ => none
theorem QH (x : List Int) (y : List Int) (hx : z8 1000000 x) (hy : z8 1000000 y) (hlx : x.length ≤ 1000000000) (hly : y.length ≤ 1000000000) :
 let q1 := ((lZ x) + (lZ y) + iO); let q2 := (xI x); let q3 := (xI y); let q4 := (nat_lit 0 = 0 ∧ 0 = 0 ∧ Int.toNat q1 = Int.toNat q1); let q11 := (Int.toNat q1); let q12 := (zW q3); let q16 := (zw 1000000 (Int.toNat (zX (1000000 : Int) x * zX (1000000 : Int) y))); ZY [xI x, AV.xl false 1
 (lN y) fun i j => aI (gD y i zi.dflt)] → bF (dK ((lZ x) + (lZ y))) (bF (dK q1) (bF (DB.db (iZ ≤ (lZ x) + (lZ y) + iO ∧ (lZ x) + (lZ y) + iO ≤ (lZ x) + (lZ y) + iO ∧ (↑8 : Int) * q1 ≤ (140737488355328 : Int))) ((∃ (z : Zk), ((XK (1000000 : Int) x y (Zk.i z) (Zk.out z) ∧ Zk.i z ≤ lN x) ∧ zB q2 q2 ∧ zB q3 q3 ∧ q4 ∧ kI ∧
 iZ = (cI (Zk.i z))) ∧ (3 : TypeId) = 3 ∧ 1 = 1 ∧ lN (Zk.out z) = Int.toNat q1 ∧ ∀ (i j : Nat), i < Int.toNat q1 → j < 1 → zB (ZD (Value.int .i64 iZ) j) (aI (gD (Zk.out z) i iZ))) ∧ ∀ (z : Zk), let q5 := (Int.toNat (AV.int (aI (cI (Zk.i z))))); let q6 := (kI ∧ (cI (Zk.i z)) = (cI (Zk.i z))); let q15 := (AV.xl false 1 q11 fun i j => aI (gD (Zk.out z) (0 + i) iZ)); let q17 := (zO (zW q15)); XK (1000000 : Int) x y (Zk.i z) (Zk.out z) ∧
 Zk.i z ≤ lN x → zY (zH (cI (Zk.i z)) (lZ x)) ((∃ (z_1 : ZO), ((MulK (1000000 : Int) x y q5 (ZO.k z_1) (ZO.out z_1) (ZO.c z_1) ∧ ZO.k z_1 ≤ lN y + 1 ∧ (ZO.k z_1 = lN y + 1 → ZO.c z_1 = iZ)) ∧ zB q2 q2 ∧ zB q3 q3 ∧ q4 ∧ q6 ∧ (kI ∧ iZ = ZO.c z_1) ∧ kI ∧ iZ = (cI (ZO.k z_1))) ∧ 3 = 3 ∧ 1 = 1 ∧ lN (ZO.out z_1) = lN (Zk.out z) ∧ ∀ (i j : Nat), i < lN (Zk.out z) → j < 1 → kI ∧ gD (Zk.out z) i iZ = gD (ZO.out
 z_1) i iZ) ∧ ∀ (z_1 : ZO), let q7 := (zH (cI (ZO.k z_1)) (lZ y)); let q9 := ((cI (Zk.i z)) + (cI (ZO.k z_1))); let q8 := (dK q9); let q10 := (DB.db (iZ ≤ (cI (Zk.i z)) + (cI (ZO.k z_1)) ∧ (cI (Zk.i z)) + (cI (ZO.k z_1)) < (cI q11))); let q13 := (0 + Int.toNat q9); let q14 := (gD (ZO.out z_1) q13 iZ + gD x (Int.toNat (cI (Zk.i z))) zi.dflt * gD q12 (Int.toNat (cI (ZO.k z_1))) iZ + ZO.c z_1); MulK (1000000 : Int) x y q5 (ZO.k z_1) (ZO.out z_1) (ZO.c z_1) ∧
 ZO.k z_1 ≤ lN y + 1 ∧ (ZO.k z_1 = lN y + 1 → ZO.c z_1 = iZ) → zY (!zS false q7 || zS false q7) (bF (!!zH (cI (ZO.k z_1)) (lZ y) || zS false q7) (zY (bif zH (cI (ZO.k z_1)) (lZ y) then true else zH iZ (ZO.c z_1)) (bF q8 (bF q10 (bF (DB.db (iZ ≤ (cI (Zk.i z)) ∧ (cI (Zk.i z)) < (lZ x))) (bF (Zy Int q3) (iZ ≤ (cI (ZO.k z_1)) ∧ bF (dK (gD x (Int.toNat (cI (Zk.i z))) zi.dflt * gD q12 (Int.toNat
 (cI (ZO.k z_1))) iZ)) (bF (dK (gD (ZO.out z_1) q13 iZ + gD x (Int.toNat (cI (Zk.i z))) zi.dflt * gD q12 (Int.toNat (cI (ZO.k z_1))) iZ)) (zY (dK q14) (bF q8 (bF q10 (bF (dK (Int.tdiv q14 (1000000 : Int))) (bF (dK ((cI (ZO.k z_1)) + iO)) (∃ (z' : ZO), (((MulK (1000000 : Int) x y q5 (ZO.k z') (ZO.out z') (ZO.c z') ∧ ZO.k z' ≤ lN y + 1 ∧ (ZO.k z' = lN y + 1 → ZO.c z' = iZ)) ∧ lN y + 1 - ZO.k z' <
 lN y + 1 - ZO.k z_1) ∧ zB q2 q2 ∧ zB q3 q3 ∧ q4 ∧ q6 ∧ (kI ∧ Int.tdiv q14 (1000000 : Int) = ZO.c z') ∧ kI ∧ (cI (ZO.k z_1)) + iO = (cI (ZO.k z'))) ∧ 3 = 3 ∧ 1 = 1 ∧ lN (ZO.out z') = lN (ZO.out z_1) ∧ ∀ (i j : Nat), i < lN (ZO.out z_1) → j < 1 → zB (if i = 0 + Int.toNat q9 ∧ 0 ≤ j ∧ j < 1 then aI (Int.tmod q14 (1000000 : Int)) else aI (gD (ZO.out z_1) i iZ)) (aI (gD (ZO.out z') i iZ)))))))
 False))))))) (bF (dK ((cI (Zk.i z)) + iO)) (∃ (z' : Zk), (((XK (1000000 : Int) x y (Zk.i z') (Zk.out z') ∧ Zk.i z' ≤ lN x) ∧ lN x - Zk.i z' < lN x - Zk.i z) ∧ zB q2 q2 ∧ zB q3 q3 ∧ q4 ∧ kI ∧ (cI (Zk.i z)) + iO = (cI (Zk.i z'))) ∧ 3 = 3 ∧ 1 = 1 ∧ lN (Zk.out z') = lN (ZO.out z_1) ∧ ∀ (i j : Nat), i < lN (ZO.out z_1) → j < 1 → kI ∧ gD (ZO.out z_1) i iZ = gD (Zk.out z') i iZ))))
 False) (bF (Zy Int q15) ((false = true → false = true) ∧ 1 = 1 ∧ lN q16 = lN q17 ∧ ∀ (i j : Nat), i < lN q17 → j < 1 → kI ∧ gD q17 i zi.dflt = gD q16 i zi.dflt))))) := by
 delta bF dK xI cI kI lZ lN gD iZ iO aI
 dsimp only
 intro hb
 have e0 : (zi.dflt : Int) = 0 := rfl
 simp only [↓ZE, ↓ZR, row_one]
 simp only [sS, dS, e0]
 have en : ((x.length : Int) + (y.length : Int) + 1).toNat = x.length + y.length + 1 := by omega
 rw [en]
 refine ⟨⟨by omega, by omega⟩, ⟨by omega, by omega⟩, ⟨by omega, Int.le_refl _, by omega⟩, ⟨⟨0, List.replicate (x.length + y.length + 1) 0⟩, ⟨⟨.zero_ (by omega) _ _, Nat.zero_le _⟩, rfl⟩, by simp, fun i j _ hj => w5 _ i j hj⟩, fun z ⟨z1, z2⟩ => ⟨fun hz => ⟨⟨⟨0, 0, z.out⟩, ⟨⟨z1.start (by omega), Nat.zero_le _, fun h => rfl⟩, rfl, rfl⟩, rfl, fun _ _ _ _ => rfl⟩, fun w ⟨w1, w2, w3⟩ => ?_⟩, fun hz => ?_⟩⟩
 ·have hz' : z.i < x.length := by omega
  have w4 := w1.len
  refine zv.2 ⟨fun c => ?_, fun c => ?_⟩
  ·have hk : w.k ≤ y.length := by
    rcases Nat.lt_or_ge y.length w.k with h | h
    ·have := w3 (by omega)
     rw [Bool.or_eq_true, zR, zR] at c
     omega
    ·exact h
   have ek : ((z.i : Int) + (w.k : Int)).toNat = z.i + w.k := by omega
   rw [ek]
   obtain ⟨⟨n0, n1⟩, hs⟩ := w1.step (by omega) hx hy hz' hk
   have g1 := hx.get (by omega) z.i
   have g2 := hy.get (by omega) w.k
   have g3 := w1.in_.get (by omega) (z.i + w.k)
   have c0 := w1.c0
   have c1 := w1.c1
   have p0 : 0 ≤ x.getD z.i 0 * y.getD w.k 0 := Int.mul_nonneg g1.1 g2.1
   have d0 := hs.c0
   have d1 := hs.c1
   refine ⟨⟨by omega, by omega⟩, ⟨by omega, by omega⟩, ⟨by omega, hz⟩, by omega, ⟨by omega, by omega⟩, ⟨by omega, by omega⟩, ⟨by omega, by omega⟩, ⟨by omega, by omega⟩, ⟨by omega, by omega⟩, ⟨by omega, by omega⟩, ⟨by omega, by omega⟩, ⟨w.k + 1, _, _⟩, ⟨⟨⟨hs, by simp only; omega, fun h => ?_⟩, by simp only; omega⟩, rfl, rfl⟩, by simp, fun i j _ => Up _ _ _ (by omega) i j⟩
   have hk' : w.k = y.length := by simp only at h; omega
   have := (hk' ▸ w1 : MulK 1000000 x y z.i y.length w.out w.c).last (by omega)
   rw [← hk'] at this
   exact this
  ·rw [Bool.or_eq_false_iff, Bool.eq_false_iff, Bool.eq_false_iff, Ne, Ne, zR, zR] at c
   have c0 := w1.c0
   exact ⟨⟨by omega, by omega⟩, ⟨z.i + 1, w.out⟩, ⟨⟨⟨w1.fin (by omega) w2 (by omega), by simp only; omega⟩, by simp only; omega⟩, rfl⟩, rfl, fun _ _ _ _ => rfl⟩
 ·have hz' : z.i = x.length := by omega
  have he := (hz' ▸ z1 : XK 1000000 x y x.length z.out).end_ (b := 1000000) (by omega)
  rw [← z1.len]
  simp only [sS, dS, e0]
  rw [he]
  exact ⟨fun h => h, rfl, fun _ _ _ _ => rfl⟩
theorem NR (x : List Int) (y : List Int) (hx : z8 1000000 x) (hy : z8 1000000 y) (hlx : x.length ≤ 1000000000) (hly : y.length ≤ 1000000000) : zT Tryz.prog [] 177 [ZF x, ZF y] (ZF (zw 1000000 (zX 1000000 x * zX 1000000 y).toNat)) :=
 zU (T := (T0.plus 173 xj).plus 175 X4) (an := QA x y) mixed (zZ.plus (zZ.plus zq wZ) Va) (Eq.mp (by kernel_rfl) (QH x y hx hy hlx hly))
theorem sP : zQ Tryz.prog [] 177 vy := by
 intro xs ps r h hp
 unfold vy at h
 split at h
 ·skip
  rename_i x_x x_y
  cases h
  obtain ⟨q0, q1, q2, q3, q4, q5, -⟩ := Zo hp
  exact weaken (ys := [ZF (zW x_x), ZF (zW x_y)]) ⟨za q0, za q1, trivial⟩ (NR (zW x_x) (zW x_y) q2 q3 q4 q5)
 ·cases h
structure wg where
 z : Nat
 q : List Int
 r : Int
def Pa (x : List Int) (d : Int) : Z9 :=
 .two .auto (.two .auto (.two .auto (.two (.two .auto (.one (.loop wg (fun σ z => [(0, σ.tm 0), (1, σ.tm 1), (6, σ.tm 6), (7, .i z.r), (8, .i ((z.z : Int) - 1))]) (fun σ z => [(yd (σ.tm 6), WZ z.q)]) 0 (fun σ z => UI 1000000 d x z.z z.q z.r) (fun σ z => z.z) .auto))) .auto)))
def ug : List AV → Option (List zn × AV)
 | [x_x, .v (.int .i64 d)] => some ([.b (Zy Int x_x), .p (z8 1000000 (zW x_x)), .p (0 < d), .p (d ≤ 1000000), .p ((zW x_x).length ≤ 1000000000)], .tup 2 (zt [ZF (zw 1000000 ((zX 1000000 (zW x_x)).toNat / d.toNat)), ZF (zw 1000000 ((zX 1000000 (zW x_x)).toNat % d.toNat))]))
 | _ => none
theorem P6 (x : List Int) (d : Int) (hx : z8 1000000 x) (hd0 : 0 < d) (hd1 : d ≤ 1000000) (hlx : x.length ≤ 1000000000) :
 let q1 := (xI x); let q2 := (nat_lit 0 = 0 ∧ 0 = 0 ∧ Int.toNat (lZ x) = Int.toNat (lZ x)); let q7 := (zw 1000000 (Int.toNat (zX (1000000 : Int) x) / Int.toNat d)); let q9 := (zw 1000000 (Int.toNat (zX (1000000 : Int) x) % Int.toNat d)); ZY [xI x, aI d] → bF (DB.db (iZ ≤ (lZ x) ∧ (lZ x) ≤ (lZ x) ∧ (↑8 :
 Int) * (lZ x) ≤ (140737488355328 : Int))) (bF (dK ((lZ x) - iO)) ((∃ (z : wg), (UI (1000000 : Int) d x (wg.z z) (wg.q z) (wg.r z) ∧ zB q1 q1 ∧ (kI ∧ d = d) ∧ q2 ∧ (kI ∧ iZ = wg.r z) ∧ kI ∧ (lZ x) - iO = (cI (wg.z z)) - iO) ∧ (3 : TypeId) = 3 ∧ 1 = 1 ∧ lN (wg.q z) = Int.toNat (lZ x) ∧ ∀ (i j : Nat), i < Int.toNat (lZ x) → j < 1 → zB (ZD (Value.int .i64 iZ) j) (AV.v (Value.int .i64
 (gD (wg.q z) i iZ)))) ∧ ∀ (z : wg), let q3 := (wg.r z * (1000000 : Int) + gD x (Int.toNat ((cI (wg.z z)) - iO)) zi.dflt); let q4 := (Int.tdiv q3 d); let q5 := (AV.xl false 1 (Int.toNat (lZ x)) fun i j => aI (gD (wg.q z) (0 + i) iZ)); let q6 := (zO (zW q5)); let q8 := (zO (zW (AV.xl true 1 1 (Sx.rowAt [fun (x : Nat) => aI (wg.r z)])))); UI (1000000 : Int) d x (wg.z z) (wg.q z) (wg.r z) → zY (leB iZ ((cI (wg.z z)) - iO)) (bF (DB.db (Y1 .i64
 (wg.r z * (1000000 : Int)))) (bF (DB.db (iZ ≤ (cI (wg.z z)) - iO ∧ (cI (wg.z z)) - iO < (lZ x))) (bF (dK q3) (bF (DB.db (d ≠ iZ)) (bF (dK q4) (bF (DB.db (iZ ≤ (cI (wg.z z)) - iO ∧ (cI (wg.z z)) - iO < (cI (Int.toNat (lZ x))))) (bF (DB.db (d ≠ iZ)) (bF (dK ((cI (wg.z z)) - iO - iO)) (∃ (z' : wg), ((UI (1000000 : Int) d x (wg.z z') (wg.q z') (wg.r z') ∧ wg.z z' < wg.z z) ∧ zB q1 q1 ∧
 (kI ∧ d = d) ∧ q2 ∧ (kI ∧ Int.tmod q3 d = wg.r z') ∧ kI ∧ (cI (wg.z z)) - iO - iO = (cI (wg.z z')) - iO) ∧ 3 = 3 ∧ 1 = 1 ∧ lN (wg.q z') = lN (wg.q z) ∧ ∀ (i j : Nat), i < lN (wg.q z) → j < 1 → zB (if i = 0 + Int.toNat ((cI (wg.z z)) - iO) ∧ 0 ≤ j ∧ j < 1 then aI q4 else aI (gD (wg.q z) i iZ)) (aI (gD (wg.q z') i iZ))))))))))) (bF (Zy
 Int q5) (j2 ∧ (True ∧ zB (xI q6) (xI q7)) ∧ zB (xI q8) (xI q9))))) := by
 delta bF dK xI cI kI j2 lZ lN gD iZ iO aI
 dsimp only
 intro hb
 have e0 : (zi.dflt : Int) = 0 := rfl
 simp only [↓ZE, ↓ZR, row_one]
 simp only [sS, dS, e0]
 have er : ∀ r : Int, zW (AV.xl true 1 1 fun x j => AV.v (Value.int IntKind.i64 r)) = [r] := fun r => rfl
 refine ⟨⟨by omega, Int.le_refl _, by omega⟩, ⟨by omega, by omega⟩, ⟨⟨x.length, List.replicate x.length 0, 0⟩, ⟨.start (by omega) hd0 x, rfl, rfl⟩, by simp, fun i j _ hj => w5 _ i j hj⟩, fun z z1 => ⟨fun hz => ?_, fun hz => ?_⟩⟩
 ·have hle := z1.le
  obtain ⟨k, hk⟩ : ∃ k, z.z = k + 1 := ⟨z.z - 1, by omega⟩
  obtain ⟨zz, q, r⟩ := z
  simp only at hk hle z1 hz ⊢
  subst hk
  have ek : (((k + 1 : Nat) : Int) - 1).toNat = k := by omega
  rw [ek]
  obtain ⟨⟨n0, n1⟩, hs⟩ := z1.step (by omega) hx
  rw [Int.add_comm] at n0 n1 hs
  have g1 := hx.get (by omega) k
  have r0 := z1.r0
  have r1 := z1.r1
  have s0 := hs.r0
  have s1 := hs.r1
  have q1 := hs.in_.get (by omega) k
  rw [yB _ _ _ _ (by rw [z1.len]; omega), if_pos rfl] at q1
  exact ⟨⟨by omega, by omega⟩, ⟨by omega, by omega⟩, ⟨by omega, by omega⟩, by omega, ⟨by omega, by omega⟩, ⟨by omega, by omega⟩, by omega, ⟨by omega, by omega⟩, ⟨k, _, _⟩, ⟨⟨hs, by simp only; omega⟩, rfl, by simp only; omega⟩, by simp, fun i j _ => Up _ _ _ (by rw [z1.len]; omega) i j⟩
 ·have v0 := zK (b := 1000000) (by omega) hx
  have hz' : z.z = 0 := by omega
  have z2 : UI 1000000 d x 0 z.q z.r := hz' ▸ z1
  rw [← z1.len, er]
  simp only [sS, dS, e0]
  obtain ⟨D, rfl⟩ : ∃ D : Nat, d = D := ⟨d.toNat, by omega⟩
  obtain ⟨t1, _, t3⟩ := z2.end_ (b := 1000000) (by omega) (by omega) (by omega) (zX 1000000 x).toNat (by show zX 1000000 x = _; omega)
  rw [t1, t3]
  exact ⟨rfl, zr _, zr _⟩
theorem Nv (x : List Int) (d : Int) (hx : z8 1000000 x) (hd0 : 0 < d) (hd1 : d ≤ 1000000) (hlx : x.length ≤ 1000000000) : zT Tryz.prog [] 174 [ZF x, .i d] (.tup 2 (zt [ZF (zw 1000000 ((zX 1000000 x).toNat / d.toNat)), ZF (zw 1000000 ((zX 1000000 x).toNat % d.toNat))])) :=
 zU (T := T0.plus 173 xj) (an := Pa x d) mixed (zZ.plus zq wZ) (Eq.mp (by kernel_rfl) (P6 x d hx hd0 hd1 hlx))
theorem Oj : zQ Tryz.prog [] 174 ug := by
 intro xs ps r h hp
 unfold ug at h
 split at h
 ·skip
  rename_i x_x d
  cases h
  obtain ⟨q0, q1, q2, q3, q4, -⟩ := Zo hp
  exact weaken (ys := [ZF (zW x_x), .i d]) ⟨za q0, zr _, trivial⟩ (Nv (zW x_x) d q1 q2 q3 q4)
 ·cases h
end Go.Te

namespace Go.Te
open Go Go.Sx Go.Proofs Go.Ar
set_option maxRecDepth 100000
set_option maxHeartbeats 4000000
theorem G3 (a : Int) (l : List Int) : (AV.xl false 1 (1 + l.length) fun i j => if i < 1 then AV.v (Value.int IntKind.i64 a) else AV.v (Value.int IntKind.i64 (l.getD (i - 1) 0))) = AV.xl false 1 (a :: l).length fun i j => AV.v (Value.int IntKind.i64 ((a :: l).getD i 0)) := by
 rw [List.length_cons, Nat.add_comm 1]
 congr 1
 funext i j
 cases i with
 | zero => rfl
 | succ i => rfl
theorem vL (n : Nat) : zX 1000000 (zw 1000000 n) = (n : Int) := yz (b := 1000000) (by omega) n
theorem HN {n : Int} (h : 0 ≤ n) : zX 1000000 (zw 1000000 n.toNat) = n := by rw [vL, Int.toNat_of_nonneg h]
theorem U2 (n : Nat) : z8 1000000 (zw 1000000 n) := y9 (b := 1000000) (by omega) n
theorem Ir {g : Int} (h0 : 0 ≤ g) (h1 : g < 1000000) : z8 1000000 [g] := .one h0 h1
theorem jK {d : Int} (hd : 0 < d) {a q : List Int} {r : Int} (ha : z8 1000000 a) (h : UI 1000000 d a 0 q r) :
  zO q = zw 1000000 ((zX 1000000 a).toNat / d.toNat) ∧ r.toNat = (zX 1000000 a).toNat % d.toNat := by
 have hv := h.val
 rw [List.drop_zero, List.drop_zero] at hv
 have q0 := zK (b := 1000000) (by omega) h.in_
 have a0 := zK (b := 1000000) (by omega) ha
 have h0 := h.r0
 have h1 := h.r1
 have ht : zO q = zw 1000000 (zX 1000000 q).toNat := y7 (b := 1000000) (by omega) h.in_
 obtain ⟨D, rfl⟩ : ∃ D : Nat, d = D := ⟨d.toNat, by omega⟩
 obtain ⟨R, rfl⟩ : ∃ R : Nat, r = R := ⟨r.toNat, by omega⟩
 obtain ⟨Q, hQ⟩ : ∃ Q : Nat, zX 1000000 q = Q := ⟨(zX 1000000 q).toNat, by omega⟩
 obtain ⟨X, hX⟩ : ∃ X : Nat, zX 1000000 a = X := ⟨(zX 1000000 a).toNat, by omega⟩
 rw [ht, hQ, hX]
 rw [hQ, hX] at hv
 have e : X = D * Q + R := by exact_mod_cast hv
 simp only [Int.toNat_natCast]
 rw [e, Nat.mul_add_div (by omega), Nat.div_eq_of_lt (by omega), Nat.mul_add_mod, Nat.mod_eq_of_lt (by omega)]
 exact ⟨rfl, rfl⟩
theorem Sa {n : Int} : UN n < 0 ↔ n < 0 := by
 rcases Int.lt_or_le n 0 with h | h
 ·rw [rV h]; omega
 ·rcases Int.lt_or_eq_of_le h with h2 | h2
  ·rw [rp h2]; omega
  ·subst h2; decide
theorem F9 {y : List Int} (hy : z8 1000000 y) (ht : zO y = y) {A : Int} (hA : 0 ≤ A) :
  (0 ≤ UN (cmpL (zw 1000000 A.toNat) y) → zX 1000000 y ≤ A ∧ y.length ≤ (zw 1000000 A.toNat).length) ∧ (UN (cmpL (zw 1000000 A.toNat) y) < 0 → A < zX 1000000 y) := by
 have e : y = zw 1000000 (zX 1000000 y).toNat := YO (b := 1000000) (by omega) hy ht
 have v0 := zK (b := 1000000) (by omega) hy
 have c := (uJ (b := 1000000) (by omega) A.toNat (zX 1000000 y).toNat).1
 rw [← e] at c
 refine ⟨fun h => ?_, fun h => ?_⟩
 ·have h1 : ¬ UN (cmpL (zw 1000000 A.toNat) y) < 0 := by omega
  rw [Sa, c] at h1
  have h2 := Zu (b := 1000000) (m := (zX 1000000 y).toNat) (n := A.toNat) (by omega) (by omega)
  rw [← e] at h2
  exact ⟨by omega, h2⟩
 ·rw [Sa, c] at h
  omega
theorem J0 {y : List Int} (hy : z8 1000000 y) (ht : zO y = y) (hn : y.length ≠ 0) : 0 < zX 1000000 y := by
 have e : y = zw 1000000 (zX 1000000 y).toNat := YO (b := 1000000) (by omega) hy ht
 have v0 := zK (b := 1000000) (by omega) hy
 refine Decidable.byContradiction fun h => hn ?_
 rw [show (zX 1000000 y).toNat = 0 by omega, ZN] at e
 rw [e]; rfl
theorem HY {N V z : Int} (h0 : 0 ≤ N) (hV : 0 < V) (h1 : V * z ≤ N) (h2 : N - V * z < V) : N.tdiv V = z ∧ N.tmod V = N - V * z := by
 obtain ⟨e, m0, m1, d0⟩ := kV h0 hV
 have a1 : N.tdiv V = z := by
  have b1 : V * N.tdiv V < V * (z + 1) := by rw [Int.mul_add, Int.mul_one]; omega
  have b2 : V * z < V * (N.tdiv V + 1) := by rw [Int.mul_add, Int.mul_one]; omega
  have c1 := Int.lt_of_mul_lt_mul_left b1 (by omega)
  have c2 := Int.lt_of_mul_lt_mul_left b2 (by omega)
  omega
 exact ⟨a1, by rw [a1] at e; omega⟩
structure xr where
 z : Nat
 q : List Int
 R : Int
def Le (x y : List Int) : Z9 :=
 .two .auto (.two .auto (.two .auto (.two .auto (.two .auto (.two .auto (.two (.two .auto (.one (.loop xr (fun σ z => [(0, σ.tm 0), (1, σ.tm 1), (6, σ.tm 6), (7, σ.tm 7), (8, σ.tm 8), (9, ZF (zw 1000000 z.R.toNat)), (10, .i ((z.z : Int) - 1))]) (fun σ z => [(yd (σ.tm 8), WZ z.q)]) 0 (fun σ z => UI 1000000 (zX 1000000 y) x z.z z.q z.R) (fun σ z => z.z) (.two .auto (.two (.one (.two .auto (.two .auto (.two .auto (.two (.one (.loop Nat (fun σ z => [(0, σ.tm 0), (1, σ.tm 1), (6, σ.tm 6), (7, σ.tm 7), (8, σ.tm 8), (10, σ.tm 10), (9, ZF (zw 1000000 (zX 1000000 (zW (σ.tm 9)) + zX 1000000 y * AV.int (σ.tm 11) - zX 1000000 y * (z : Int)).toNat)), (11, .i (z : Int))]) (fun σ z => []) 0 (fun σ z => zX 1000000 y * (z : Int) ≤ zX 1000000 (zW (σ.tm 9)) + zX 1000000 y * AV.int (σ.tm 11)) (fun σ z => (zX 1000000 (zW (σ.tm 9)) + zX 1000000 y * AV.int (σ.tm 11) - zX 1000000 y * (z : Int)).toNat) .auto)) .auto))))) .auto))))) .auto))))))
def rZ : List AV → Option (List zn × AV)
 | [x_x, x_y] => some ([.b (Zy Int x_x), .b (Zy Int x_y), .p (z8 1000000 (zW x_x)), .p (z8 1000000 (zW x_y)), .p (zO (zW x_y) = (zW x_y)), .p ((zW x_y).length ≠ 0), .p ((zW x_x).length ≤ 100000000), .p ((zW x_y).length ≤ 100000000)], .tup 2 (zt [ZF (zw 1000000 ((zX 1000000 (zW x_x)).toNat / (zX 1000000 (zW x_y)).toNat)), ZF (zw 1000000 ((zX 1000000 (zW x_x)).toNat % (zX 1000000 (zW x_y)).toNat))]))
 | _ => none
theorem Lj (x : List Int) (y : List Int) (hx : z8 1000000 x) (hy : z8 1000000 y) (ht : zO y = y) (hn : y.length ≠ 0) (hlx : x.length ≤ 100000000) (hly : y.length ≤ 100000000) :
 let q1 := (xI x); let q2 := (zW q1); let q4 := (zX (1000000 : Int) q2); let q3 := (zw 1000000 (Int.toNat q4 / Int.toNat (gD y 0 zi.dflt))); let q6 := (zw 1000000 (Int.toNat (zX (1000000 : Int) x) / Int.toNat (zX (1000000 : Int) y))); let q5 := (xI q6); let q7 := (zw 1000000 (Int.toNat q4 % Int.toNat (gD y 0 zi.dflt))); let q9 := (zw 1000000 (Int.toNat (zX (1000000 : Int) x) % Int.toNat (zX
 (1000000 : Int) y))); let q8 := (xI q9); let q10 := (dK ((lZ y) - iO)); let q11 := (Int.toNat ((lZ y) - iO)); let q12 := (dK ((lZ y) - (2 : Int))); let q13 := (Int.toNat ((lZ y) - (2 : Int))); let q14 := (xI y); let q15 := (kI ∧ (lZ y) = (lZ y)); let q16 :=
 (kI ∧ gD y q11 zi.dflt * (1000000 : Int) + gD y q13 zi.dflt = gD y q11 zi.dflt * (1000000 : Int) + gD y q13 zi.dflt); let q17 := (nat_lit 0 = 0 ∧ 0 = 0 ∧ Int.toNat (lZ x) = Int.toNat (lZ x)); let q27 := (gD y q11 zi.dflt * (1000000 : Int) + gD y q13 zi.dflt + iO); let q29 := (Zy Int q14); let q31 := (zW q14); let q30 := (∀ (x : Int), List.Mem x q31 → iZ ≤ x ∧ x < (1000000 : Int)); ZY [xI x,
 xI y] → zY ((lZ y) == iO) (bF (DB.db (iZ ≤ iZ ∧ iZ < (lZ y))) (bF (Zy Int q1) ((∀ (x_1 : Int), List.Mem x_1 q2 → iZ ≤ x_1 ∧ x_1 < (1000000 : Int)) ∧ iZ < gD y 0 zi.dflt ∧ gD y 0 zi.dflt ≤ (1000000 : Int) ∧ lN q2 ≤ 1000000000 ∧ j2 ∧ (True ∧ zB (xI q3) q5) ∧ zB (AV.xl false 1
 (lN q7) fun i j => aI (gD q7 i zi.dflt)) q8))) (bF q10 (bF (DB.db (iZ ≤ (lZ y) - iO ∧ (lZ y) - iO < (lZ y))) (bF (dK (gD y q11 zi.dflt * (1000000 : Int))) (bF q12 (bF (DB.db (iZ ≤ (lZ y) - (2 : Int) ∧ (lZ y) - (2 : Int) < (lZ y))) (bF (dK (gD y q11 zi.dflt * (1000000 : Int) + gD y q13 zi.dflt)) (bF (DB.db (iZ ≤ (↑(lN x)
 : Int) ∧ (lZ x) ≤ (lZ x) ∧ (↑8 : Int) * (lZ x) ≤ (140737488355328 : Int))) (bF (dK ((lZ x) - iO)) ((∃ (z : xr), (UI (1000000 : Int) (zX (1000000 : Int) y) x (xr.z z) (xr.q z) (xr.R z) ∧ zB q1 q1 ∧ zB q14 q14 ∧ q15 ∧ q16 ∧ q17 ∧ zB (AV.xl true 1 0 (Sx.rowAt [])) (xI (zw 1000000 (Int.toNat (xr.R z)))) ∧ kI ∧ (lZ x) - iO = (cI (xr.z
 z)) - iO) ∧ (3 : TypeId) = 3 ∧ 1 = 1 ∧ lN (xr.q z) = Int.toNat (lZ x) ∧ ∀ (i j : Nat), i < Int.toNat (lZ x) → j < 1 → zB (ZD (Value.int .i64 iZ) j) (aI (gD (xr.q z) i iZ))) ∧ ∀ (z : xr), let q18 := (1 + lN (zw 1000000 (Int.toNat (xr.R z)))); let q20 := (Value.int .i64 (gD x (Int.toNat ((cI (xr.z z)) - iO)) zi.dflt)); let q19 := (AV.xl false 1 q18 fun (a b : Nat) => if a < 1 then Sx.rowAt [fun (x_1 : Nat) => AV.v q20] a b else aI (List.getD
 (zw 1000000 (Int.toNat (xr.R z))) (a - 1) zi.dflt)); let q23 := (zO (zW q19)); let q22 := (xI q23); let q21 := (Zy Int q22); let q24 := (zW q22); let q25 := (gD q24 (Int.toNat (lZ y)) iZ * (1000000 : Int) + gD q24 q11 iZ); let q26 := (q25 * (1000000 : Int) + gD q24 q13 iZ); let q28 := (Int.tdiv q26 q27); let q34 := (zO (zW (AV.xl false 1 q18 fun (a b : Nat) => if a < 1 then Sx.rowAt [fun (x_3 : Nat) => AV.v q20] a b else AV.v
 (Value.int .i64 (gD (zw 1000000 (Int.toNat (xr.R z))) (a - 1) zi.dflt))))); let q33 := (zW (xI q34)); let q32 := (zW (AV.xl true 1 1 (Sx.rowAt [fun (x_2 : Nat) => AV.v (Value.int .i64 (Int.tdiv ((gD q33 (Int.toNat (lZ y)) iZ * (1000000 : Int) + gD q33 q11 iZ) * (1000000 : Int) + gD q33 q13 iZ) q27))]))); let q38 := (zO (zW (AV.xl false 1 q18 fun (a b : Nat) => if a < 1 then Sx.rowAt [fun (x_2 : Nat) => AV.v q20] a b else AV.v
 (Value.int .i64 (gD (zw 1000000 (Int.toNat (xr.R z))) (a - 1) zi.dflt))))); let q37 := (zW (xI q38)); let q36 := (Value.int .i64 (Int.tdiv ((gD q37 (Int.toNat (lZ y)) iZ * (1000000 : Int) + gD q37 q11 iZ) * (1000000 : Int) + gD q37 q13 iZ) q27)); let q35 := (zW (AV.xl true 1 1 (Sx.rowAt [fun (x_1 : Nat) => AV.v q36]))); let q40 := (zw 1000000 (Int.toNat (zX (1000000 : Int) q31 * zX (1000000 : Int) q35))); let q39 := (AV.xl
 false 1 (lN q40) fun i j => aI (gD q40 i zi.dflt)); let q42 := (zw 1000000 (Int.toNat (zX (1000000 : Int) q31 * zX (1000000 : Int) q32))); let q41 := (zW (xI q42)); let q43 := (zW q39); let q46 := (zw 1000000 (Int.toNat (zX (1000000 : Int) q24 - zX (1000000 : Int) q43))); let q45 := (xI q46); let q44 := (zW q45); let q47 := (aI q28); let q48 :=
 (kI ∧ (cI (xr.z z)) - iO = (cI (xr.z z)) - iO); let q56 := (zw 1000000 (Int.toNat (zX (1000000 : Int) q37 - zX (1000000 : Int) q41))); let q60 := (AV.xl false 1 (Int.toNat (lZ x)) fun i j => aI (gD (xr.q z) (0 + i) iZ)); let q61 := (zO (zW q60)); UI (1000000 : Int) (zX (1000000 : Int) y) x (xr.z z) (xr.q z) (xr.R z) → zY (leB iZ ((cI (xr.z z)) - iO)) (bF (DB.db (iZ ≤ (cI (xr.z z)) - iO ∧ (cI (xr.z z)) - iO < (↑(lN x) :
 Int))) (bF (DB.db (q18 * 8 ≤ 140737488355328)) (bF (Zy Int q19) (bF q21 (iZ ≤ (lZ y) ∧ bF (dK (gD q24 (Int.toNat (lZ y)) iZ * (1000000 : Int))) (bF q10 (bF q21 (iZ ≤ (lZ y) - iO ∧ bF (dK q25) (bF (dK (q25 * (1000000 : Int))) (bF q12 (bF q21 (iZ ≤ (lZ y) - (2 : Int) ∧ bF (dK q26) (bF (dK q27) (bF (DB.db (gD y q11 zi.dflt * (1000000 : Int) + gD y
 q13 zi.dflt + iO ≠ iZ)) (bF (dK q28) (bF q29 (q30 ∧ (∀ (x_1 : Int), List.Mem x_1 q32 → iZ ≤ x_1 ∧ x_1 < (1000000 : Int)) ∧ lN q31 ≤ 1000000000 ∧ lN q35 ≤ 1000000000 ∧ bF q21 (bF (Zy Int q39) ((∀ (x_1 : Int), List.Mem x_1 q37 → iZ ≤ x_1 ∧ x_1 < (1000000 : Int)) ∧ (∀ (x_1 : Int), List.Mem x_1 q41 → iZ ≤ x_1 ∧ x_1 < (1000000 : Int)) ∧ lN q43 ≤ lN q24 ∧ lN q24 ≤ 1000000000 ∧ zX (1000000 : Int) q43 ≤ zX (1000000 : Int) q24 ∧ (∃ (z_1 : Nat), let q49 := (zw 1000000 (Int.toNat (zX
 (1000000 : Int) q44 + zX (1000000 : Int) y * AV.int q47 - zX (1000000 : Int) y * (cI z_1)))); (zX (1000000 : Int) y * (cI z_1) ≤ zX (1000000 : Int) q44 + zX (1000000 : Int) y * AV.int q47 ∧ zB q1 q1 ∧ zB q14 q14 ∧ q15 ∧ q16 ∧ q17 ∧ q48 ∧ zB q45 (xI q49) ∧ kI ∧ Int.tdiv q26 q27 = (cI z_1)) ∧ 3 = 3 ∧ 1 = 1 ∧ lN (xr.q z) = lN (xr.q z) ∧ ∀ (i j : Nat), i < lN (xr.q z) → j < 1 → kI ∧ gD (xr.q z) i iZ = List.getD
 (xr.q z) i iZ) ∧ ∀ (z_1 : Nat), let q53 := (zX (1000000 : Int) q44 + zX (1000000 : Int) y * AV.int q47 - zX (1000000 : Int) y * (cI z_1)); let q52 := (zw 1000000 (Int.toNat q53)); let q51 := (xI q52); let q50 := (Zy Int q51); let q54 := (zW q51); let q55 := (zw 1000000 (Int.toNat (zX (1000000 : Int) (zW (xI q56)) + zX (1000000 : Int) y * AV.int (AV.v q36) - zX (1000000 : Int) y * (↑z_1 :
 Int)))); let q58 := (zw 1000000 (Int.toNat (zX (1000000 : Int) q54 - zX (1000000 : Int) q31))); zX (1000000 : Int) y * (cI z_1) ≤ zX (1000000 : Int) q44 + zX (1000000 : Int) y * AV.int q47 → bF q50 (bF q29 (zY (leB iZ (UN (cmpL q54 q31))) (bF q50 (bF q29 ((∀ (x_1 : Int), List.Mem x_1 (zW (xI q55)) → iZ ≤ x_1 ∧ x_1 < (1000000 : Int)) ∧ q30 ∧ lN q31 ≤ lN q54 ∧ lN q54 ≤ 1000000000 ∧ zX (1000000 : Int) q31 ≤ zX (1000000 : Int)
 q54 ∧ bF (dK ((cI z_1) + iO)) (∃ (z' : Nat), let q57 := (zX (1000000 : Int) q44 + zX (1000000 : Int) y * AV.int q47 - zX (1000000 : Int) y * (cI z')); let q59 := (zw 1000000 (Int.toNat q57)); ((zX (1000000 : Int) y * (cI z') ≤ zX (1000000 : Int) q44 + zX (1000000 : Int) y * AV.int q47 ∧ Int.toNat q57 < Int.toNat q53) ∧ zB q1 q1 ∧ zB q14 q14 ∧ q15 ∧ q16 ∧ q17 ∧ q48 ∧ zB (xI q58) (AV.xl false 1 (lN q59) fun i j => aI (gD q59
 i zi.dflt)) ∧ kI ∧ (cI z_1) + iO = (cI z')) ∧ 3 = 3 ∧ 1 = 1 ∧ lN (xr.q z) = lN (xr.q z) ∧ ∀ (i j : Nat), i < lN (xr.q z) → j < 1 → kI ∧ gD (xr.q z) i iZ = gD (xr.q z) i iZ)))) (bF (DB.db (iZ ≤ (cI (xr.z z)) - iO ∧ (cI (xr.z z)) - iO < (cI (Int.toNat (lZ x))))) (bF (dK ((cI (xr.z z)) - iO - iO)) (∃ (z' : xr), ((UI (1000000 : Int) (zX (1000000 : Int) y) x (xr.z z') (xr.q
 z') (xr.R z') ∧ xr.z z' < xr.z z) ∧ zB q1 q1 ∧ zB q14 q14 ∧ q15 ∧ q16 ∧ q17 ∧ zB q51 (xI (zw 1000000 (Int.toNat (xr.R z')))) ∧ kI ∧ (cI (xr.z z)) - iO - iO = (cI (xr.z z')) - iO) ∧ 3 = 3 ∧ 1 = 1 ∧ lN (xr.q z') = lN (xr.q z) ∧ ∀ (i j : Nat), i < lN (xr.q z) → j < 1 → zB (if i = 0 + Int.toNat ((cI (xr.z z)) - iO) ∧ 0 ≤ j ∧ j < 1 then aI (cI z_1) else AV.v
 (Value.int .i64 (gD (xr.q z) i iZ))) (aI (gD (xr.q z') i iZ)))))))))))))))))))))))))) (bF (Zy Int q60) (j2 ∧ (True ∧ zB (xI q61) q5) ∧ zB (AV.xl false 1 (lN (zw 1000000 (Int.toNat (xr.R z)))) fun i j => aI (gD (zw 1000000 (Int.toNat (xr.R z))) i
 zi.dflt)) q8))))))))))) := by
 delta bF dK xI cI kI j2 lZ lN gD iZ iO aI
 dsimp only
 intro hb
 have e0 : (zi.dflt : Int) = 0 := rfl
 simp only [↓ZE, ↓ZR, row_one]
 simp only [sS, dS, e0]
 simp only [G3]
 simp only [sS, dS, e0]
 have hV := J0 hy ht hn
 have er : ∀ r : Int, zW (AV.xl true 1 1 fun x j => AV.v (Value.int IntKind.i64 r)) = [r] := fun r => rfl
 refine ⟨fun h1 => ?_, fun h1 => ⟨⟨by omega, by omega⟩, ⟨by omega, by omega⟩, ⟨?_, ?_⟩, ⟨by omega, by omega⟩, ⟨by omega, by omega⟩, ⟨?_, ?_⟩, ⟨by omega, Int.le_refl _, by omega⟩, ⟨by omega, by omega⟩, ⟨⟨x.length, List.replicate x.length 0, 0⟩, ⟨.start (by omega) hV x, ?_, rfl⟩, by simp, fun i j _ hj => w5 _ i j hj⟩, fun z z1 => ⟨fun hz => ?_, fun hz => ?_⟩⟩⟩
 ·have d4 := hy.get (by omega) 0
  have ev : zX 1000000 y = y.getD 0 0 := by
   have := xz 1000000 y 0
   rw [List.drop_zero, List.drop_of_length_le (l := y) (i := 0 + 1) (by omega), yj, Int.mul_zero, Int.add_zero] at this
   exact this
  rw [ev] at hV ⊢
  exact ⟨⟨by omega, by omega⟩, hx, hV, by omega, by omega, rfl, zr _, zr _⟩
 ·have := hy.get (by omega) ((y.length : Int) - 1).toNat; omega
 ·have := hy.get (by omega) ((y.length : Int) - 1).toNat; omega
 ·have := hy.get (by omega) ((y.length : Int) - 1).toNat
  have := hy.get (by omega) ((y.length : Int) - 2).toNat
  omega
 ·have := hy.get (by omega) ((y.length : Int) - 1).toNat
  have := hy.get (by omega) ((y.length : Int) - 2).toNat
  omega
 ·rw [show ((0 : Int)).toNat = 0 from rfl, ZN]
  exact ⟨fun _ => rfl, rfl, rfl, fun i j hi => absurd hi (Nat.not_lt_zero _)⟩
 rotate_left
 ·have hz' : z.z = 0 := by have := z1.le; omega
  have z2 : UI 1000000 (zX 1000000 y) x 0 z.q z.R := hz' ▸ z1
  obtain ⟨t1, t2⟩ := jK hV hx z2
  rw [← z1.len]
  simp only [sS, dS, e0]
  rw [t1, t2]
  exact ⟨rfl, zr _, zr _⟩
 have ek : ((z.z : Int) - 1).toNat = z.z - 1 := by omega
 have ey1 : ((y.length : Int) - 1).toNat = y.length - 1 := by omega
 have ey2 : ((y.length : Int) - 2).toNat = y.length - 2 := by omega
 rw [ek, ey1, ey2]
 obtain ⟨zz, q, R⟩ := z
 simp only at hz z1 ek ⊢
 obtain ⟨k, rfl⟩ : ∃ k, zz = k + 1 := ⟨zz - 1, by omega⟩
 rw [show k + 1 - 1 = k by omega]
 have zle := z1.le
 have R0 := z1.r0
 have R1 := z1.r1
 obtain ⟨⟨n0, n1⟩, hs⟩ := z1.step (by omega) hx
 have xk := hx.get (by omega) k
 have el : zO (x.getD k 0 :: zw 1000000 R.toNat) = zw 1000000 (x.getD k 0 + R * 1000000).toNat := by
  rw [y7 (b := 1000000) (by omega) (show z8 1000000 (x.getD k 0 :: zw 1000000 R.toNat) from z8.app (.one xk.1 xk.2) (U2 _))]
  show zw 1000000 (x.getD k 0 + 1000000 * zX 1000000 (zw 1000000 R.toNat)).toNat = _
  rw [HN R0, Int.mul_comm]
 rw [el]
 generalize hN : x.getD k 0 + R * 1000000 = N at *
 have lN : (zw 1000000 N.toNat).length ≤ y.length + 1 := by
  refine yU (b := 1000000) (by omega) ?_
  have := yN (b := 1000000) (by omega) hy
  rw [Int.toNat_of_nonneg n0]
  show N < (1000000 : Int) ^ (y.length + 1)
  rw [wv]
  omega
 obtain ⟨g0, g1, g2⟩ := eY (b := 1000000) (by omega) hy (U2 N.toNat) (by omega) rfl lN (by rw [HN n0]; omega) rfl rfl
 rw [HN n0] at g2
 have d1 := (U2 N.toNat).get (by omega) y.length
 have d2 := (U2 N.toNat).get (by omega) (y.length - 1)
 have d3 := (U2 N.toNat).get (by omega) (y.length - 2)
 have d4 := hy.get (by omega) (y.length - 1)
 have d5 := hy.get (by omega) (y.length - 2)
 generalize (zw 1000000 N.toNat).getD y.length 0 = t1 at *
 generalize (zw 1000000 N.toNat).getD (y.length - 1) 0 = t2 at *
 generalize (zw 1000000 N.toNat).getD (y.length - 2) 0 = t3 at *
 generalize y.getD (y.length - 1) 0 = u1 at *
 generalize y.getD (y.length - 2) 0 = u2 at *
 generalize ((t1 * 1000000 + t2) * 1000000 + t3).tdiv (u1 * 1000000 + u2 + 1) = g at *
 have V0 := zK (b := 1000000) (by omega) hy
 have g3 : 0 ≤ zX 1000000 y * g := Int.mul_nonneg V0 g0
 simp only [er, lj, HN n0, HN g3]
 have g4 : 0 ≤ N - zX 1000000 y * g := by omega
 simp only [HN g4, Int.sub_add_cancel]
 have lR : (zw 1000000 R.toNat).length ≤ y.length := by
  refine yU (b := 1000000) (by omega) ?_
  have := yN (b := 1000000) (by omega) hy
  rw [Int.toNat_of_nonneg R0]
  show R < (1000000 : Int) ^ y.length
  omega
 have lVg : (zw 1000000 (zX 1000000 y * g).toNat).length ≤ (zw 1000000 N.toNat).length := Zu (b := 1000000) (by omega) (by omega)
 refine ⟨⟨by omega, by omega⟩, by omega, by omega, ⟨by omega, by omega⟩, ⟨by omega, by omega⟩, by omega, ⟨by omega, by omega⟩, ⟨by omega, by omega⟩, ⟨by omega, by omega⟩, by omega, ⟨by omega, by omega⟩, ⟨by omega, by omega⟩, by omega, ⟨by omega, by omega⟩, hy, Ir g0 g1, by omega, by simp, U2 _, U2 _, lVg, by omega, g2, ⟨⟨g.toNat, ⟨by rw [Int.toNat_of_nonneg g0]; exact g2, by rw [Int.toNat_of_nonneg g0]; exact zr _, by omega⟩, fun _ _ _ _ => trivial⟩, fun z hz2 => ?_⟩⟩
 have A0 : 0 ≤ N - zX 1000000 y * (z : Int) := by omega
 obtain ⟨c1, c2⟩ := F9 hy ht A0
 have zb : (z : Int) < 1000000 := by
  have : zX 1000000 y * (z : Int) < zX 1000000 y * 1000000 := by omega
  exact Int.lt_of_mul_lt_mul_left this V0
 have lA : (zw 1000000 (N - zX 1000000 y * (z : Int)).toNat).length ≤ (zw 1000000 N.toNat).length := Zu (b := 1000000) (by omega) (by
  have : 0 ≤ zX 1000000 y * (z : Int) := Int.mul_nonneg V0 (by omega)
  omega)
 simp only [HN A0]
 refine ⟨fun hc => ?_, fun hc => ?_⟩
 ·obtain ⟨c3, c4⟩ := c1 hc
  have es : zX 1000000 y * ((z + 1 : Nat) : Int) = zX 1000000 y * (z : Int) + zX 1000000 y := by rw [Int.natCast_add, Int.mul_add]; simp
  refine ⟨U2 _, hy, c4, by omega, c3, ⟨by omega, by omega⟩, ⟨z + 1, ⟨⟨by omega, by omega⟩, ?_, by omega⟩, fun _ _ _ _ => trivial⟩⟩
  rw [es, show N - (zX 1000000 y * (z : Int) + zX 1000000 y) = N - zX 1000000 y * (z : Int) - zX 1000000 y by omega]
  exact zr _
 ·obtain ⟨q1, q2⟩ := HY n0 hV hz2 (c2 hc)
  rw [q1, q2] at hs
  exact ⟨⟨by omega, by omega⟩, ⟨by omega, by omega⟩, ⟨k, _, _⟩, ⟨⟨hs, by simp only; omega⟩, zr _, by simp only; omega⟩, by simp, fun i j _ => Up _ _ _ (by rw [z1.len]; omega) i j⟩
theorem JZ (x : List Int) (y : List Int) (hx : z8 1000000 x) (hy : z8 1000000 y) (ht : zO y = y) (hn : y.length ≠ 0) (hlx : x.length ≤ 100000000) (hly : y.length ≤ 100000000) : zT Tryz.prog [] 116 [ZF x, ZF y] (.tup 2 (zt [ZF (zw 1000000 ((zX 1000000 x).toNat / (zX 1000000 y).toNat)), ZF (zw 1000000 ((zX 1000000 x).toNat % (zX 1000000 y).toNat))])) :=
 zU (T := (((((T0.plus 173 xj).plus 175 X4).plus 176 W5).plus 177 vy).plus 174 ug).plus 178 Vr) (an := Le x y) mixed (zZ.plus (zZ.plus (zZ.plus (zZ.plus (zZ.plus (zZ.plus zq wZ) Va) sI) sP) Oj) QZ) (Eq.mp (by kernel_rfl) (Lj x y hx hy ht hn hlx hly))
theorem jt : zQ Tryz.prog [] 116 rZ := by
 intro xs ps r h hp
 unfold rZ at h
 split at h
 ·skip
  rename_i x_x x_y
  cases h
  obtain ⟨q0, q1, q2, q3, q4, q5, q6, q7, -⟩ := Zo hp
  exact weaken (ys := [ZF (zW x_x), ZF (zW x_y)]) ⟨za q0, za q1, trivial⟩ (JZ (zW x_x) (zW x_y) q2 q3 q4 q5 q6 q7)
 ·cases h
end Go.Te

namespace Go.Te
open Go Go.Sx Go.Proofs Go.Ar Go.Lib
set_option maxRecDepth 100000
set_option maxHeartbeats 4000000
def Uj : List AV → Option (List zn × AV)
 | [.str a, .str b] => some ([.p (zC a = true), .p (a.length ≤ 4294967280), .p (zC b = true), .p (b.length ≤ 4294967280)], .tup 3 (zt [.i (bif leB a.length 17 then zV a else 0), .i (bif leB a.length 17 && leB b.length 17 then zV b else 0), .b (leB a.length 17 && leB b.length 17)]))
 | _ => none
theorem LN (a : List UInt8) (b : List UInt8) (ha : zC a = true) (hla : a.length ≤ 4294967280) (hb' : zC b = true) (hlb : b.length ≤ 4294967280) :
 ZY [AV.str a, AV.str b] → zC a = true ∧ lN a ≤ nM ∧ zY (!leB (lZ a) (17 : Int)) (3 = lN [AV.junk, AV.junk, AV.junk] ∧ ((True ∧ kI ∧ iZ = bif leB (lZ a) (17 : Int) then zV a else iZ) ∧ kI ∧ iZ = bif leB (lZ a) (17 : Int) && leB (lZ b) (17 : Int) then zV b else iZ) ∧ false = (leB (lZ a) (17 : Int) && leB (lZ b) (17 : Int))) (zC b = true ∧ lN b ≤ nM ∧ 3 = lN [AV.junk,
 AV.junk, AV.junk] ∧ ((True ∧ kI ∧ (bif leB (lZ a) (17 : Int) then zV a else iZ) = bif leB (lZ a) (17 : Int) then zV a else iZ) ∧ kI ∧ (bif leB (lZ b) (17 : Int) then zV b else iZ) = bif leB (lZ a) (17 : Int) && leB (lZ b) (17 : Int) then zV b else iZ) ∧ leB (lZ b) (17 : Int) = (leB (lZ a) (17 : Int) && leB (lZ b) (17 : Int))) := by
 delta nM kI lZ lN iZ
 intro hb
 simp only [sS, dS]
 refine ⟨ha, hla, ?_⟩
 refine zv.2 ⟨fun c => ?_, fun c => ⟨hb', hlb, ?_⟩⟩
 ·rw [Bool.not_eq_true'] at c
  rw [c]
  exact ⟨rfl, ⟨rfl, rfl⟩, rfl⟩
 ·rw [Bool.not_eq_false'] at c
  rw [c]
  simp only [Bool.true_and]
  exact ⟨rfl, trivial, trivial⟩
theorem jW (a : List UInt8) (b : List UInt8) (ha : zC a = true) (hla : a.length ≤ 4294967280) (hb' : zC b = true) (hlb : b.length ≤ 4294967280) : zT Tryz.prog [] 114 [.str a, .str b] (.tup 3 (zt [.i (bif leB a.length 17 then zV a else 0), .i (bif leB a.length 17 && leB b.length 17 then zV b else 0), .b (leB a.length 17 && leB b.length 17)])) :=
 zU (T := T0.plus 172 uP) (an := .auto) mixed (zZ.plus zq nB) (Eq.mp (by kernel_rfl) (LN a b ha hla hb' hlb))
theorem Om : zQ Tryz.prog [] 114 Uj := by
 intro xs ps r h hp
 unfold Uj at h
 split at h
 ·skip
  rename_i a b
  cases h
  obtain ⟨q0, q1, q2, q3, -⟩ := Zo hp
  exact weaken (ys := [.str a, .str b]) ⟨zr _, zr _, trivial⟩ (jW a b q0 q1 q2 q3)
 ·cases h
structure xw where
 i : Nat
 out : zL
structure WX where
 j : Nat
 out : zL
def Vj : OB → zL
 | .arr _ _ n els => (List.range n).map fun i => N1 (els i 0)
 | _ => []
theorem fS (o : zL) (z : Nat) : ((List.range (o.length - z)).map fun i => N1 (AV.v (Value.int IntKind.u8 ((o.getD (z + i) 0).toNat : Int)))) = o.drop z := by
 apply List.ext_getElem
 ·simp
 ·intro i h1 h2
  simp only [List.length_map, List.length_range] at h1
  rw [List.getElem_map, List.getElem_range, List.getElem_drop]
  show UInt8.ofNat ((o.getD (z + i) 0).toNat : Int).toNat = _
  rw [Int.toNat_natCast, UInt8.ofNat_toNat, List.getD_eq_getElem?_getD, List.getElem?_eq_getElem (by omega)]
  rfl
theorem Em (o : zL) : Vj (OB.arr 5 1 o.length fun i x => AV.v (Value.int IntKind.u8 ((o.getD i 0).toNat : Int))) = o := by
 have := fS o 0
 simp only [Nat.zero_add, Nat.sub_zero, List.drop_zero] at this
 exact this
theorem nI (l : zL) (i k : Nat) (v : UInt8) (hk : k < l.length) : (l.set k v).getD i 0 = if k = i then v else l.getD i 0 := by
 rw [List.getD_eq_getElem?_getD, List.getD_eq_getElem?_getD, List.getElem?_set]
 by_cases e : k = i
 ·subst e; rw [if_pos rfl, if_pos hk, if_pos rfl]; rfl
 ·rw [if_neg e, if_neg e]
theorem Fj (l : zL) (k : Nat) (v : UInt8) (n : Int) (hn : n = (v.toNat : Int)) (hk : k < l.length) (i j : Nat) (hj : j < 1) : zB (if i = k ∧ j < 1 then AV.v (Value.int IntKind.u8 n) else AV.v (Value.int IntKind.u8 ((l.getD i 0).toNat : Int))) (AV.v (Value.int IntKind.u8 (((l.set k v).getD i 0).toNat : Int))) := by
 refine ZA ?_
 rw [nI l i k v hk]
 by_cases e : i = k
 ·rw [if_pos ⟨e, hj⟩, if_pos e.symm, hn]
 ·rw [if_neg fun h => e h.1, if_neg fun h => e h.symm]
theorem uz {out : zL} : ∀ {z : Nat}, z ≤ out.length → (∀ i, i < z → out.getD i 0 = 48) → zm (out.drop z) = zm out
 | 0, _, _ => by rw [List.drop_zero]
 | z + 1, hz, h => by rw [Q6 (by omega) (h z (by omega)), uz (by omega) fun i hi => h i (by omega)]
def Pi (x : Big) : Z9 :=
 .two .auto (.two .auto (.two .auto (.two (.two .auto (.one (.loop xw (fun σ z => [(1, σ.tm 1), (3, σ.tm 3), (4, .i (z.i : Int))]) (fun σ z => [(yd (σ.tm 3), IG z.out)]) 0 (fun σ z => sA x.l z.i 0 z.out ∧ z.i ≤ x.l.length) (fun σ z => x.l.length - z.i) (.two .auto (.two (.one (.two .auto (.two .auto (.one (.loop WX (fun σ z => [(1, σ.tm 1), (3, σ.tm 3), (4, σ.tm 4), (5, .i (((x.l.getD (AV.int (σ.tm 4)).toNat 0).toNat / 10 ^ z.j : Nat) : Int)), (6, .i ((z.j : Int) + 1))]) (fun σ z => [(yd (σ.tm 3), IG z.out)]) 0 (fun σ z => sA x.l (AV.int (σ.tm 4)).toNat z.j z.out ∧ z.j ≤ 6) (fun σ z => 6 - z.j) .auto))))) .auto))))) (.two (.one (.loop Nat (fun σ z => [(1, σ.tm 1), (3, .ns (yd (σ.tm 3)) z (6 * x.l.length - z))]) (fun σ z => []) 0 (fun σ z => z < 6 * x.l.length ∧ ∀ i, i < z → (Vj (σ.bl (yd (σ.tm 3)))).getD i 0 = 48) (fun σ z => 6 * x.l.length - z) .auto)) .auto))))
def vT : List AV → Option (List zn × AV)
 | [x_x] => some ([.b (yZ Big x_x), .p (z8 1000000 (Zi (α := Big) x_x).l), .p (zO (Zi (α := Big) x_x).l = (Zi (α := Big) x_x).l), .p ((Zi (α := Big) x_x).l.length ≤ 100000000), .p ((Zi (α := Big) x_x).neg = true → (Zi (α := Big) x_x).l.length ≠ 0)], .str (itoa (bif (Zi (α := Big) x_x).neg then - zX 1000000 (Zi (α := Big) x_x).l else zX 1000000 (Zi (α := Big) x_x).l)))
 | _ => none
theorem Qc (x : Big) (hx : z8 1000000 x.l) (ht : zO x.l = x.l) (hl : x.l.length ≤ 100000000) (h0 : x.neg = true → x.l.length ≠ 0) :
 let q1 := (bif Big.neg x then -zX (1000000 : Int) (Big.l x) else zX (1000000 : Int) (Big.l x)); let q2 := ((6 : Int) * (lZ (Big.l x))); let q3 := (nat_lit 1 = 1 ∧ 0 = 0 ∧ Int.toNat q2 = Int.toNat q2); let q5 := (xI (Big.l x)); let q4 := (139 = 139 ∧ 2 = 2 ∧ Big.neg x = Big.neg x ∧ zB q5 q5); let q9 := (cI (Int.toNat q2)); ZY [AV.agg 2 (zi.enc x)] → zY ((lZ (Big.l x)) == iZ) (bA #[(48 : UInt8)] = itoa q1)
 (bF (dK q2) (bF (DB.db (iZ ≤ (6 : Int) * (lZ (Big.l x)) ∧ (6 : Int) * (lZ (Big.l x)) ≤ (6 : Int) * (lZ (Big.l x)) ∧ (↑1 : Int) * q2 ≤ (140737488355328 : Int))) ((∃ (z : xw), ((sA (Big.l x) (xw.i z) 0 (xw.out z) ∧ xw.i z ≤ lN (Big.l x)) ∧ (nat_lit 0 = 0 ∧ 0 = 0) ∧ q3 ∧ kI ∧ iZ = (cI (xw.i z))) ∧ q4 ∧ (5 : TypeId) = 5 ∧ 1 = 1 ∧ lN (xw.out z) = Int.toNat q2 ∧ ∀ (i j : Nat), i < Int.toNat q2 → j < 1 → zB (ZD (Value.int IntKind.u8 iZ) j) (AV.v (Value.int
 IntKind.u8 (cI (UInt8.toNat (gD (xw.out z) i (0 : UInt8))))))) ∧ ∀ (z : xw), let q6 := (Int.toNat (AV.int (aI (cI (xw.i z))))); let q7 := (kI ∧ (cI (xw.i z)) = (cI (xw.i z))); let q8 := (gD (Big.l x) q6 iZ); sA (Big.l x) (xw.i z) 0 (xw.out z) ∧ xw.i z ≤ lN (Big.l x) → zY (zH (cI (xw.i z)) (lZ (Big.l x))) (bF (DB.db (iZ ≤ (cI (xw.i z)) ∧ (cI (xw.i z)) < (lZ (Big.l x)))) ((∃ (z_1 : WX), ((sA (Big.l x) q6 (WX.j z_1) (WX.out z_1) ∧ WX.j
 z_1 ≤ 6) ∧ (nat_lit 0 = 0 ∧ 0 = 0) ∧ q3 ∧ q7 ∧ (kI ∧ gD (Big.l x) (Int.toNat (cI (xw.i z))) zi.dflt = (cI (Int.toNat q8 / 10 ^ WX.j z_1))) ∧ kI ∧ iO = (cI (WX.j z_1)) + iO) ∧ q4 ∧ 5 = 5 ∧ 1 = 1 ∧ lN (WX.out z_1) = lN (xw.out z) ∧ ∀ (i j : Nat), i < lN (xw.out z) → j < 1 → IntKind.u8 = IntKind.u8 ∧ (cI (UInt8.toNat (gD (xw.out z) i (0 : UInt8)))) = (cI (UInt8.toNat (gD (WX.out z_1) i (0 : UInt8))))) ∧ ∀ (z_1 : WX), let q10 := (q9 - (6 : Int) * (cI (xw.i z)) - ((cI (WX.j
 z_1)) + iO)); let q12 := (cI (Int.toNat q8 / 10 ^ WX.j z_1)); let q11 := ((48 : Int) + Int.tmod q12 (10 : Int)); sA (Big.l x) q6 (WX.j z_1) (WX.out z_1) ∧ WX.j z_1 ≤ 6 → zY (leB ((cI (WX.j z_1)) + iO) (6 : Int)) (bF (dK ((6 : Int) * (cI (xw.i z)))) (bF (dK (q9 - (6 : Int) * (cI (xw.i z)))) (bF (dK q10) (bF (dK q11) (bF (DB.db (Y1 IntKind.u8 q11)) (bF (DB.db (iZ ≤ q9 - (6 : Int) * (cI (xw.i z)) - ((cI (WX.j z_1)) + iO) ∧ q9 - (6 : Int) *
 (cI (xw.i z)) - ((cI (WX.j z_1)) + iO) < q9)) (bF (dK (Int.tdiv q12 (10 : Int))) (bF (dK ((cI (WX.j z_1)) + iO + iO)) (∃ (z' : WX), (((sA (Big.l x) q6 (WX.j z') (WX.out z') ∧ WX.j z' ≤ 6) ∧ 6 - WX.j z' < 6 - WX.j z_1) ∧ (nat_lit 0 = 0 ∧ 0 = 0) ∧ q3 ∧ q7 ∧ (kI ∧ Int.tdiv q12 (10 : Int) = (cI (Int.toNat q8 / 10 ^ WX.j z'))) ∧ kI ∧ (cI (WX.j z_1)) + iO + iO = (cI (WX.j z')) + iO) ∧ q4 ∧ 5 = 5 ∧ 1 = 1 ∧ lN (WX.out z') = lN (WX.out
 z_1) ∧ ∀ (i j : Nat), i < lN (WX.out z_1) → j < 1 → zB (if i = 0 + Int.toNat q10 ∧ 0 ≤ j ∧ j < 1 then AV.v (Value.int IntKind.u8 q11) else a8 (gD (WX.out z_1) i (0 : UInt8))) (a8 (gD (WX.out z') i (0 : UInt8)))))))))))) (bF (dK ((cI (xw.i z)) + iO)) (∃ (z' : xw), (((sA (Big.l x) (xw.i z') 0 (xw.out z') ∧ xw.i z' ≤ lN (Big.l x)) ∧ lN (Big.l x) - xw.i z' < lN (Big.l
 x) - xw.i z) ∧ (nat_lit 0 = 0 ∧ 0 = 0) ∧ q3 ∧ kI ∧ (cI (xw.i z)) + iO = (cI (xw.i z'))) ∧ q4 ∧ 5 = 5 ∧ 1 = 1 ∧ lN (xw.out z') = lN (WX.out z_1) ∧ ∀ (i j : Nat), i < lN (WX.out z_1) → j < 1 → IntKind.u8 = IntKind.u8 ∧ (cI (UInt8.toNat (gD (WX.out z_1) i (0 : UInt8)))) = (cI (UInt8.toNat (gD (xw.out z') i (0 : UInt8)))))))) ((∃ (z_1 : Nat), ((z_1 < 6 * lN (Big.l x) ∧ ∀ (i : Nat), i < z_1 → gD (Vj (OB.arr (5 : TypeId) 1 (lN (xw.out z)) fun (i x : Nat) => AV.v
 (Value.int IntKind.u8 (cI (UInt8.toNat (gD (xw.out z) i (0 : UInt8))))))) i (0 : UInt8) = (48 : UInt8)) ∧ (nat_lit 0 = 0 ∧ 0 = 0) ∧ nat_lit 1 = 1 ∧ z_1 = 0 ∧ 6 * lN (Big.l x) - z_1 = Int.toNat q2) ∧ q4 ∧ 5 = 5 ∧ 1 = 1 ∧ lN (xw.out z) = lN (xw.out z) ∧ ∀ (i j : Nat), let q13 := (cI (UInt8.toNat (gD (xw.out z) i (0 : UInt8)))); i < lN (xw.out z) → j < 1 → IntKind.u8 = IntKind.u8 ∧ q13 = q13) ∧ ∀ (z_1 : Nat), let q14 := (cI (6 * lN (Big.l x) - z_1)); let q16 := (∀ (i : Nat), i < 6 * lN (Big.l x) - z_1 → ∃ (k :
 Int), a8 (gD (xw.out z) (z_1 + i) (0 : UInt8)) = AV.v (Value.int IntKind.u8 k)); let q17 := (fun (i : Nat) => N1 (a8 (gD (xw.out z) (z_1 + i) (0 : UInt8)))); let q18 := (List.range (6 * lN (Big.l x) - z_1)); (z_1 < 6 * lN (Big.l x) ∧ ∀ (i : Nat), i < z_1 → gD (Vj (OB.arr (5 : TypeId) 1 (lN (xw.out z)) fun (i x : Nat) => a8 (gD (xw.out z) i (0 : UInt8)))) i (0 : UInt8) = (48 : UInt8)) →
 bF (DB.db (iZ ≤ iZ ∧ iZ < q14)) (zY ((cI (UInt8.toNat (gD (xw.out z) (z_1 + 0) (0 : UInt8)))) == (48 : Int)) (bF (DB.db (iZ ≤ iO ∧ iO ≤ q14)) (∃ (z' : Nat), (((z' < 6 * lN (Big.l x) ∧ ∀ (i : Nat), i < z' → gD (Vj (OB.arr (5 : TypeId) 1 (lN (xw.out z)) fun (i x : Nat) => a8 (gD (xw.out z) i (0 : UInt8)))) i (0 : UInt8) = (48 : UInt8)) ∧ 6 * lN (Big.l x) - z' < 6 * lN (Big.l x) - z_1) ∧ (nat_lit 0 = 0 ∧ 0 = 0) ∧ nat_lit 1 = 1 ∧
 z' = z_1 + 1 ∧ 6 * lN (Big.l x) - z' = 6 * lN (Big.l x) - z_1 - 1) ∧ q4 ∧ 5 = 5 ∧ 1 = 1 ∧ lN (xw.out z) = lN (xw.out z) ∧ ∀ (i j : Nat), let q15 := (cI (UInt8.toNat (gD (xw.out z) i (0 : UInt8)))); i < lN (xw.out z) → j < 1 → IntKind.u8 = IntKind.u8 ∧ q15 = q15)) (zY (Big.neg x) (q16 ∧ bF (DB.db (1 + lN (List.map q17 q18) ≤ nX)) (bA #[(45 : UInt8)] ++ List.map q17 q18 = itoa q1)) (q16 ∧ List.map q17 q18 = itoa q1))))))) := by
 delta bF dK bA a8 xI nX cI kI lZ lN gD iZ iO aI
 dsimp only
 intro hb
 have e0 : (zi.dflt : Int) = 0 := rfl
 simp only [↓ZE, ↓ZR, row_one]
 simp only [sS, dS, e0]
 have ev : ((6 : Int) * (x.l.length : Int)).toNat = 6 * x.l.length := by omega
 rw [ev]
 refine ⟨fun hz => ?_, fun hz => ⟨⟨by omega, by omega⟩, ⟨by omega, Int.le_refl _, by omega⟩, ⟨⟨0, List.replicate (6 * x.l.length) 0⟩, ⟨⟨.start _, Nat.zero_le _⟩, rfl⟩, by simp, fun i j _ hj => ?_⟩, fun z ⟨z1, z2⟩ => ⟨fun hlt => ⟨⟨by omega, hlt⟩, ⟨⟨0, z.out⟩, ⟨⟨z1, by simp⟩, ?_, rfl⟩, rfl, fun _ _ _ _ => rfl⟩, fun t ⟨t1, t2⟩ => ⟨fun hj => ?_, fun hj => ?_⟩⟩, fun hge => ?_⟩⟩⟩
 ·have hn : x.neg = false := by
   cases hx : x.neg with
   | false => rfl
   | true => exact absurd (by omega) (h0 hx)
  have he : x.l = [] := List.eq_nil_of_length_eq_zero (by omega)
  rw [hn, he]
  have : itoa ((0 : Nat) : Int) = [48] := by rw [Go.Ar.ym, z7 (by omega)]; rfl
  exact this.symm
 ·obtain rfl : j = 0 := by omega
  refine ZA ?_
  rw [List.getD_eq_getElem?_getD, List.getElem?_replicate]
  split <;> rfl
 ·have := hx.get (by omega) z.i
  rw [Nat.pow_zero, Nat.div_one]
  omega
 ·have g1 := hx.get (by omega) z.i
  obtain ⟨X, hX⟩ : ∃ X : Nat, x.l.getD z.i 0 = X := ⟨(x.l.getD z.i 0).toNat, by omega⟩
  have hs := t1.step (by omega) (by omega)
  rw [hX] at g1 hs ⊢
  simp only [Int.toNat_natCast] at hs ⊢
  have hY : X / 10 ^ t.j ≤ X := Nat.div_le_self _ _
  have hY2 : X / 10 ^ (t.j + 1) = X / 10 ^ t.j / 10 := by rw [Nat.pow_succ, Nat.div_div_eq_div_mul]
  generalize X / 10 ^ t.j = Y at *
  have tm : ((Y : Nat) : Int).tmod 10 = ((Y % 10 : Nat) : Int) := by rw [Int.tmod_eq_emod_of_nonneg (by omega)]; omega
  have td : ((Y : Nat) : Int).tdiv 10 = ((Y / 10 : Nat) : Int) := by rw [Int.tdiv_eq_ediv_of_nonneg (by omega)]; omega
  have hm : Y % 10 < 10 := Nat.mod_lt _ (by omega)
  rw [tm, td]
  have tl := t1.len
  have ek : ((6 * x.l.length : Nat) : Int) - 6 * (z.i : Int) - ((t.j : Int) + 1) = ((6 * x.l.length - 6 * z.i - t.j - 1 : Nat) : Int) := by omega
  rw [ek, Int.toNat_natCast]
  exact ⟨⟨by omega, by omega⟩, ⟨by omega, by omega⟩, ⟨by omega, by omega⟩, ⟨by omega, by omega⟩, ⟨by omega, by omega⟩, ⟨by omega, by omega⟩, ⟨by omega, by omega⟩, ⟨by omega, by omega⟩, ⟨t.j + 1, _⟩, ⟨⟨⟨hs, by simp only; omega⟩, by simp only; omega⟩, by simp only [hY2], by simp only; omega⟩, by simp, fun i j _ hj => Fj _ _ _ _ (by rw [ww hm]; omega) (by omega) i j hj⟩
 ·have ej : t.j = 6 := by omega
  have hw := (ej ▸ t1 : sA x.l z.i 6 t.out).next hx (by omega)
  exact ⟨⟨by omega, by omega⟩, ⟨z.i + 1, t.out⟩, ⟨⟨⟨hw, by simp only; omega⟩, by simp only; omega⟩, by simp⟩, rfl, fun _ _ _ _ => rfl⟩
 ·have ei : z.i = x.l.length := by omega
  obtain ⟨w1, w2⟩ := (ei ▸ z1 : sA x.l x.l.length 0 z.out).end_
  have hV := J0 hx ht (by omega)
  have zl := z1.len
  simp only [Em]
  rw [← zl]
  refine ⟨⟨0, ⟨⟨by omega, fun i hi => absurd hi (Nat.not_lt_zero _)⟩, rfl, rfl⟩, fun _ _ _ _ => trivial⟩, fun k ⟨k1, k2⟩ => ⟨⟨Int.le_refl _, by omega⟩, fun h48 => ?_, fun h48 => ?_⟩⟩
  ·have hk : z.out.getD k 0 = 48 := UInt8.toNat_inj.1 (by rw [Nat.add_zero] at h48; have : (48 : UInt8).toNat = 48 := rfl; omega)
   have hall : ∀ i, i < k + 1 → z.out.getD i 0 = 48 := fun i hi => by
    by_cases e : i = k
    ·rw [e]; exact hk
    ·exact k2 i (by omega)
   have hlt : k + 1 < z.out.length := by
    refine Decidable.byContradiction fun hn => ?_
    have := uz (out := z.out) (z := k + 1) (by omega) hall
    rw [List.drop_of_length_le (by omega), w2] at this
    simp [zm] at this
    omega
   exact ⟨⟨by omega, by omega⟩, k + 1, ⟨⟨⟨hlt, hall⟩, by omega⟩, rfl, by omega⟩, fun _ _ _ _ => trivial⟩
  ·have hk : z.out.getD k 0 ≠ 48 := fun e => h48 (by rw [Nat.add_zero, e]; rfl)
   have he := O4 w1 k1 hk ((uz (by omega) k2).trans w2)
   rw [fS, he]
   obtain ⟨n, hn⟩ : ∃ n : Nat, zX 1000000 x.l = n := ⟨(zX 1000000 x.l).toNat, by omega⟩
   rw [hn, Int.toNat_natCast]
   have hlen := congrArg List.length he
   rw [List.length_drop, hn, Int.toNat_natCast] at hlen
   refine zv.2 ⟨fun c => ⟨fun i _ => ⟨_, rfl⟩, by omega, ?_⟩, fun c => ⟨fun i _ => ⟨_, rfl⟩, ?_⟩⟩
   ·rw [c]
    exact (Go.Ar.itoa_neg (by omega)).symm
   ·rw [c]
    exact (Go.Ar.ym n).symm
theorem nw (x : Big) (hx : z8 1000000 x.l) (ht : zO x.l = x.l) (hl : x.l.length ≤ 100000000) (h0 : x.neg = true → x.l.length ≠ 0) : zT Tryz.prog [] 117 [yw x] (.str (itoa (bif x.neg then - zX 1000000 x.l else zX 1000000 x.l))) :=
 zU (T := T0) (an := Pi x) mixed zq (Eq.mp (by kernel_rfl) (Qc x hx ht hl h0))
theorem si : zQ Tryz.prog [] 117 vT := by
 intro xs ps r h hp
 unfold vT at h
 split at h
 ·skip
  rename_i x_x
  cases h
  obtain ⟨q0, q1, q2, q3, q4, -⟩ := Zo hp
  exact weaken (ys := [yw (Zi (α := Big) x_x)]) ⟨zc q0, trivial⟩ (nw (Zi (α := Big) x_x) q1 q2 q3 q4)
 ·cases h
end Go.Te

namespace Go.Te
open Go Go.Sx Go.Proofs Go.Ar Go.Lib
set_option maxRecDepth 100000
set_option maxHeartbeats 4000000
structure WY where
 x : Int
 y : Int
structure VX where
 x : Nat
 y : Nat
def Mu (a b : zL) : Z9 :=
 .two .auto (.two .auto (.two (.two .auto (.two .auto (.two (.two (.one (.loop WY (fun σ z => [(7, .i z.x), (8, .i z.y)]) (fun σ z => []) 0 (fun σ z => Nat.gcd z.x.natAbs z.y.natAbs = Zc a b ∧ z.x.natAbs ≤ 100000000000000000 ∧ z.y.natAbs ≤ 100000000000000000) (fun σ z => z.y.natAbs) .auto)) .auto) .auto))) (.two .auto (.two (.one (.loop VX (fun σ z => [(10, ZF (zw 1000000 z.x)), (11, ZF (zw 1000000 z.y))]) (fun σ z => []) 0 (fun σ z => Nat.gcd z.x z.y = Zc a b ∧ (zw 1000000 z.x).length ≤ 100000000 ∧ (zw 1000000 z.y).length ≤ 100000000) (fun σ z => z.y) .auto)) .auto))))
noncomputable def EP (G : List (Nat × Obj)) : Tb := (((((Kk G).plus 113 Vd).plus 114 Uj).plus 115 Vv).plus 116 rZ).plus 117 vT
theorem O1 {G : List (Nat × Obj)} (hG : zh G) : zZ Tryz.prog (EP G) :=
 zZ.plus (zZ.plus (zZ.plus (zZ.plus (zZ.plus (Yj hG) (zQ.mono QN)) (zQ.mono Om)) (zQ.mono qh)) (zQ.mono jt)) (zQ.mono si)
theorem gm {a : zL} (h : zC a = true) (hl : a.length ≤ 100000000) : (zw 1000000 (zV a).natAbs).length ≤ 100000000 := by
 have h1 := TS h
 refine Nat.le_trans (yU (b := 1000000) (k := a.length) (by omega) ?_) hl
 have h2 : 10 ^ a.length ≤ 1000000 ^ a.length := Nat.pow_le_pow_left (by omega) _
 exact_mod_cast Nat.lt_of_lt_of_le h1 h2
theorem ef {s : zL} (hs : zC s = true) (h : leB (s.length : Int) 17 = true) : (zV s).natAbs ≤ 100000000000000000 := by
 have h1 := TS hs
 have h2 : 10 ^ s.length ≤ 10 ^ 17 := Nat.pow_le_pow_right (by omega) (by have := (ze _ _).1 h; omega)
 omega
theorem l6 (G : List (Nat × Obj)) (a b : zL) (hla : a.length ≤ 100000000) (hlb : b.length ≤ 100000000) :
 ZY [AV.str a, AV.str b] → lN a ≤ nM ∧ lN b ≤ nM ∧ zY (zI a b != iZ) (j2 ∧ (True ∧ bA #[] = bif zI a b != iZ then [] else itoa (cI (Zc a b))) ∧ kI ∧ zI a b = zI a b) (zC a = true ∧ lN a ≤ nM ∧ zC b = true ∧ lN b ≤ nM ∧ zY (leB (lZ a) (17 : Int) && leB (lZ b) (17 : Int)) ((∃ (z : WY), ((Nat.gcd (Int.natAbs (WY.x z)) (Int.natAbs (WY.y z)) = Zc a b ∧
 Int.natAbs (WY.x z) ≤ 100000000000000000 ∧ Int.natAbs (WY.y z) ≤ 100000000000000000) ∧ (kI ∧ (bif leB (lZ a) (17 : Int) then zV a else iZ) = WY.x z) ∧ kI ∧ (bif leB (lZ a) (17 : Int) && leB (lZ b) (17 : Int) then zV b else iZ) = WY.y z) ∧ True) ∧ ∀ (z : WY), let q1 := (if -WY.x z > WY.x z then -WY.x z else WY.x z); Nat.gcd (Int.natAbs (WY.x z)) (Int.natAbs (WY.y z)) = Zc a b ∧ Int.natAbs (WY.x z) ≤ 100000000000000000 ∧ Int.natAbs (WY.y z) ≤ 100000000000000000 → zY (WY.y z
 != iZ) (bF (DB.db (WY.y z ≠ iZ)) (∃ (z' : WY), (((Nat.gcd (Int.natAbs (WY.x z')) (Int.natAbs (WY.y z')) = Zc a b ∧ Int.natAbs (WY.x z') ≤ 100000000000000000 ∧ Int.natAbs (WY.y z') ≤ 100000000000000000) ∧ Int.natAbs (WY.y z') < Int.natAbs (WY.y z)) ∧ (kI ∧ WY.y z = WY.x z') ∧ kI ∧ Int.tmod (WY.x z) (WY.y z) = WY.y z') ∧ True)) (bF (dK (-WY.x z)) (((iN ≤ if -WY.x z > WY.x z then -WY.x z else WY.x z) ∧ q1 ≤ iX) ∧ j2 ∧ (True
 ∧ itoa q1 = bif zI a b != iZ then [] else itoa (cI (Zc a b))) ∧ kI ∧ iZ = zI a b))) (zC a = true ∧ lN a ≤ nM ∧ zC b = true ∧ lN b ≤ nM ∧ (∃ (z : VX), ((Nat.gcd (VX.x z) (VX.y z) = Zc a b ∧ lN (zw 1000000 (VX.x z)) ≤ 100000000 ∧ lN (zw 1000000 (VX.y z)) ≤ 100000000) ∧ zB (xI (zw 1000000 (Int.natAbs (zV a)))) (AV.xl false 1 (lN (zw 1000000 (VX.x
 z))) fun i j => aI (gD (zw 1000000 (VX.x z)) i zi.dflt)) ∧ (false = true → false = true) ∧ 1 = 1 ∧ lN (zw 1000000 (VX.y z)) = lN (zw 1000000 (Int.natAbs (zV b))) ∧ ∀ (i j : Nat), i < lN (zw 1000000 (Int.natAbs (zV b))) → j < 1 → kI ∧ gD (zw 1000000 (Int.natAbs (zV b))) i zi.dflt = gD (zw 1000000 (VX.y z)) i zi.dflt) ∧ True) ∧ ∀ (z : VX), let q2 := (AV.xl false 1 (lN (zw 1000000 (VX.x z))) fun i j => aI (gD (zw 1000000 (VX.x z)) i
 zi.dflt)); let q3 := (xI (zw 1000000 (VX.y z))); let q4 := (zW q2); let q5 := (zW q3); let q6 := (zw 1000000 (Int.toNat (zX (1000000 : Int) q4) % Int.toNat (zX (1000000 : Int) q5))); let q7 := (AV.agg 2 (zt [AV.v (Value.bool false), xI (zw 1000000 (VX.x z))])); let q9 := (Zi q7); let q8 := (Big.l q9); Nat.gcd (VX.x z) (VX.y z) = Zc a b ∧ List.length
 (zw 1000000 (VX.x z)) ≤ 100000000 ∧ lN (zw 1000000 (VX.y z)) ≤ 100000000 → zY (zH iZ (lZ (zw 1000000 (VX.y z)))) (bF (Zy Int q2) (bF (Zy Int q3) ((∀ (x : Int), List.Mem x q4 → iZ ≤ x ∧ x < (1000000 : Int)) ∧ (∀ (x : Int), List.Mem x q5 → iZ ≤ x ∧ x < (1000000 : Int)) ∧ zO q5 = zW q3 ∧ lN q5 ≠ 0 ∧ lN q4 ≤ 100000000 ∧ lN q5 ≤ 100000000 ∧ ∃ (z' : VX), (((Nat.gcd (VX.x z') (VX.y z') = Zc a b ∧ lN (zw 1000000 (VX.x z')) ≤ 100000000 ∧ lN (zw 1000000 (VX.y z'))
 ≤ 100000000) ∧ VX.y z' < VX.y z) ∧ zB q3 (xI (zw 1000000 (VX.x z'))) ∧ (false = true → false = true) ∧ 1 = 1 ∧ lN (zw 1000000 (VX.y z')) = lN q6 ∧ ∀ (i j : Nat), i < lN q6 → j < 1 → kI ∧ gD q6 i zi.dflt = gD (zw 1000000 (VX.y z')) i zi.dflt) ∧ True))) (bF (yZ Big q7) ((∀ (x : Int), List.Mem x q8 → iZ ≤ x ∧ x < (1000000 : Int)) ∧ zO q8 = Big.l q9 ∧ lN q8 ≤ 100000000 ∧ (Big.neg q9
 = true → lN q8 ≠ 0) ∧ j2 ∧ (True ∧ itoa (bif Big.neg q9 then -zX (1000000 : Int) q8 else zX (1000000 : Int) q8) = bif zI a b != iZ then [] else itoa (cI (Zc a b))) ∧ kI ∧ iZ = zI a b)))) := by
 delta bF dK bA xI nM cI kI j2 lZ lN gD iZ iX iN aI
 dsimp only
 intro hb
 have e0 : (zi.dflt : Int) = 0 := rfl
 simp only [↓ZE, ↓ZR, row_one]
 simp only [sS, dS, e0]
 refine ⟨by omega, by omega, fun hE => ⟨rfl, by rw [bne_iff_ne.2 hE]; rfl⟩, fun hE => ?_⟩
 obtain ⟨hA, hB⟩ := yg hE
 have ia : zC a = true := (Ze.1 hA).1
 have ib : zC b = true := (Ze.1 hB).1
 have la := gm ia hla
 have lb := gm ib hlb
 simp only [hE, bne_self_eq_false, cond_false, Ym, yE, Y3, TM]
 refine ⟨ia, by omega, ib, by omega, ?_⟩
 refine zv.2 ⟨fun c => ?_, fun c => ⟨ia, by omega, ib, by omega, ?_⟩⟩
 ·rw [Bool.and_eq_true] at c
  rw [c.1, c.2]
  simp only [cond_true, Bool.and_self]
  refine ⟨⟨⟨zV a, zV b⟩, ⟨rfl, ef ia c.1, ef ib c.2⟩, rfl, rfl⟩, fun z ⟨z1, z2, z3⟩ => ⟨fun hy => ⟨hy, ⟨z.y, z.x.tmod z.y⟩, ⟨⟨?_, z3, ?_⟩, ?_⟩, rfl, rfl⟩, fun hy => ?_⟩⟩
  ·rw [Int.natAbs_tmod, ← wx (y := z.y.natAbs) (by omega), z1]
  ·rw [Int.natAbs_tmod]
   have : z.x.natAbs % z.y.natAbs ≤ z.x.natAbs := Nat.mod_le _ _
   omega
  ·rw [Int.natAbs_tmod]
   exact Nat.mod_lt _ (by omega)
  ·rw [hy, Int.natAbs_zero, Nat.gcd_zero_right] at z1
   rw [z1] at z2 ⊢
   exact ⟨⟨by omega, by omega⟩, ⟨by omega, by omega⟩, rfl, rfl, trivial⟩
 ·refine ⟨⟨⟨(zV a).natAbs, (zV b).natAbs⟩, ⟨rfl, la, lb⟩, zr _, fun h => h, rfl, fun _ _ _ _ => rfl⟩, fun z ⟨z1, z2, z3⟩ => ⟨fun hy => ?_, fun hy => ?_⟩⟩
  ·have hy0 : z.y ≠ 0 := fun e => by rw [e, ZN] at hy; exact absurd hy (by decide)
   simp only [vL, Int.toNat_natCast]
   have hm : z.x % z.y < z.y := Nat.mod_lt _ (by omega)
   have hlen := Zu (b := 1000000) (m := z.x % z.y) (n := z.y) (by omega) (by omega)
   exact ⟨U2 _, U2 _, XT (b := 1000000) (by omega) _, by omega, z2, z3, ⟨z.y, z.x % z.y⟩, ⟨⟨by rw [← wx hy0]; exact z1, z3, by simp only; omega⟩, hm⟩, zr _, fun h => h, rfl, fun _ _ _ _ => rfl⟩
  ·have hy0 := yb (b := 1000000) (n := z.y) (by omega) (by omega)
   rw [hy0, Nat.gcd_zero_right] at z1
   simp only [vL]
   rw [z1] at z2 ⊢
   exact ⟨U2 _, XT (b := 1000000) (by omega) _, z2, fun h => (by cases h), rfl, rfl, trivial⟩
def gb (a b : zL) : AV := .tup 2 (zt [.str (bif zI a b != 0 then [] else itoa (Zc a b : Int)), .i (zI a b)])
def rQ : List AV → Option (List zn × AV)
 | [.str a, .str b] => some ([.p (a.length ≤ 100000000), .p (b.length ≤ 100000000)], gb a b)
 | _ => none
theorem JQ {G : List (Nat × Obj)} (hG : zh G) (a b : zL) (hla : a.length ≤ 100000000) (hlb : b.length ≤ 100000000) : zT Tryz.prog G 63 [.str a, .str b] (gb a b) :=
 zU (T := EP G) (an := Mu a b) mixed (O1 hG) (Eq.mp (by kernel_rfl) (l6 G a b hla hlb))
theorem KJ {G : List (Nat × Obj)} (hG : zh G) : zQ Tryz.prog G 63 rQ := by
 intro xs ps r h hp
 unfold rQ at h
 split at h
 ·rename_i a b
  cases h
  exact JQ hG a b (hp _ List.mem_cons_self) (hp _ (List.mem_cons_of_mem _ List.mem_cons_self))
 ·cases h
end Go.Te

namespace Go.Te
open Go Go.Sx Go.Proofs Go.Ar Go.Lib
set_option maxRecDepth 100000
set_option maxHeartbeats 4000000
def Qs (s : zL) : Z9 :=
 .two .auto (.two .auto (.two (.two .auto (.one (.loop Nat (fun σ z => [(0, σ.tm 0), (3, .i z)]) (fun σ z => []) 0 (fun σ z => z ≤ s.length ∧ ∀ i, i < z → Zs (s.getD i 0) = true) (fun σ z => s.length - z) .auto))) .auto))
def Vz : List AV → Option (List zn × AV)
 | [.str s] => some ([.p (s.length ≤ 4294967280)], .b (z6 s))
 | _ => none
theorem R9 (s : List UInt8) (hl : s.length ≤ 4294967280) :
 let q1 := (!zS false ((lZ s) == iZ) || zS false ((lZ s) == iZ)); let q4 := (zH iO (lZ s)); let q3 := (zS false ((lZ s) == iZ) && zS true q4); let q2 := (!q3 || zS false ((lZ s) == iZ) && zS true q4); ZY [AV.str s] → bF q1 (bF q1 (bF q1 (bF q2 (bF (!q3 || DB.db (iZ ≤ iZ ∧ iZ < (lZ s))) (bF q2 (bF q1 (bF (!zS false ((lZ s) == iZ) || (!zH iO (cI (List.length
 s)) || zS false ((lZ s) == iZ) && zS true q4)) (bF (!!(lZ s) == iZ || zS false ((lZ s) == iZ)) (zY (bif (lZ s) == iZ then true else bif zH iO (lZ s) then (cI (UInt8.toNat (gD s 0 (0 : UInt8)))) == (48 : Int) else false) (false = z6 s) ((∃ (z : Nat), ((z ≤ lN s ∧ ∀ (i : Nat), i < z → Zs (gD s i (0 : UInt8)) = true) ∧ s = s ∧ kI ∧ iZ = (cI z)) ∧ True) ∧ ∀ (z : Nat), let q5 := (iZ ≤ (↑z :
 Int) ∧ (cI z) < (lZ s)); let q8 := (cI (UInt8.toNat (gD s (Int.toNat (↑z : Int)) (0 : UInt8)))); let q7 := (zH q8 (48 : Int)); let q6 := (!zS false q7 || zS false q7); (z ≤ lN s ∧ ∀ (i : Nat), i < z → Zs (gD s i (0 : UInt8)) = true) → zY (zH (cI z) (lZ s)) (bF (DB.db q5) (bF q6 (bF q6 (bF (!zS false q7 || DB.db q5) (bF q6 (bF (!!zH q8 (48 : Int) || zS false q7) (zY (bif zH q8 (48 : Int) then true else zH (57 : Int) q8) (false = z6 s) (bF (dK ((cI z) + (1 :
 Int))) (∃ (z' : Nat), (((z' ≤ lN s ∧ ∀ (i : Nat), i < z' → Zs (gD s i (0 : UInt8)) = true) ∧ lN s - z' < lN s - z) ∧ s = s ∧ kI ∧ (cI z) + iO = (cI z')) ∧ True))))))))) (true = z6 s))))))))))) := by
 delta bF dK cI kI lZ lN gD iZ iO
 dsimp only
 intro hb
 simp only [sS, dS, Za, FA]
 have e48 : (((s.getD 0 0).toNat : Int) == 48) = (s.getD 0 0 == 48) := YV (s.getD 0 0) 48 (by decide)
 rw [e48]
 refine ⟨fun h => ⟨Int.le_refl _, ?_⟩, ?_⟩
 ·rw [Bool.and_eq_true, zR] at h; omega
 by_cases h0 : s.length = 0
 ·have he : s = [] := List.eq_nil_of_length_eq_zero h0
  subst he
  exact rfl
 rw [show ((s.length : Int) == 0) = false from beq_eq_false_iff_ne.2 (by omega)]
 simp only [Bool.not_false, Bool.not_true, Bool.false_or, Bool.true_and]
 rw [show (!zH 1 (s.length : Int) || zH 1 (s.length : Int)) = true by cases zH 1 (s.length : Int) <;> rfl, Y3]
 refine zv.2 ⟨fun c => ?_, fun c => ⟨⟨0, ⟨Nat.zero_le _, fun i hi => absurd hi (Nat.not_lt_zero _)⟩, rfl⟩, fun z ⟨z1, z2⟩ => ⟨fun hz => ⟨⟨by omega, hz⟩, fun _ => ⟨by omega, hz⟩, zv.2 ⟨fun c2 => ?_, fun c2 => ⟨⟨by omega, by omega⟩, z + 1, ⟨⟨by omega, fun i hi => ?_⟩, by omega⟩, by omega⟩⟩⟩, fun hz => ?_⟩⟩⟩
 ·rw [Bool.and_eq_true, zR, beq_iff_eq] at c
  refine (Bool.eq_false_iff.2 fun e => (vz.1 e).2.2 (by omega) c.2).symm
 ·rw [Bool.not_eq_true'] at c2
  refine (Bool.eq_false_iff.2 fun e => ?_).symm
  have := (vz.1 e).2.1 z (by omega)
  rw [c2] at this; cases this
 ·rw [Bool.not_eq_false'] at c2
  by_cases e : i = z
  ·rw [e]; exact c2
  ·exact z2 i (by omega)
 ·refine (vz.2 ⟨by omega, fun i hi => z2 i (by omega), fun h1 h2 => ?_⟩).symm
  rw [Bool.and_eq_false_iff, beq_eq_false_iff_ne, Bool.eq_false_iff, Ne, zR] at c
  rcases c with c | c
  ·omega
  ·exact c h2
theorem pL (s : List UInt8) (hl : s.length ≤ 4294967280) : zT Tryz.prog [] 60 [.str s] (.b (z6 s)) :=
 zU (T := T0) (an := Qs s) mixed zq (Eq.mp (by kernel_rfl) (R9 s hl))
theorem Pq : zQ Tryz.prog [] 60 Vz := by
 intro xs ps r h hp
 unfold Vz at h
 split at h
 ·skip
  rename_i s
  cases h
  obtain ⟨q0, -⟩ := Zo hp
  exact weaken (ys := [.str s]) ⟨zr _, trivial⟩ (pL s q0)
 ·cases h
def QI (a : zL) : Z9 :=
 .two .auto (.two .auto (.two .auto (.two .auto (.two (.two .auto (.one (.loop Nat (fun σ z => [(6, σ.tm 6), (7, σ.tm 7), (8, .i z)]) (fun σ z => []) 0 (fun σ z => z ≤ (zu a).length ∧ ∀ i, i < z → (zu a).getD i 0 ≠ 47) (fun σ z => (zu a).length - z) .auto))) .auto))))
def wY : List AV → Option (List zn × AV)
 | [.str a] => some ([.p (a.length ≤ 4294967280)], .tup 4 (zt [.b (zG a), .str (zp (zu a)), .str (zg (zu a)), .b (zk (zu a))]))
 | _ => none
theorem pA (a : List UInt8) (hl : a.length ≤ 4294967280) :
 let q2 := (zH iZ (lZ a)); let q1 := (!zS true q2 || zS true q2); let q4 := (cI (UInt8.toNat (gD a 0 (0 : UInt8)))); let q3 := (bif zH iZ (lZ a) then q4 == (45 : Int) else false); let q5 := (q3 = bif zH iZ (lZ a) then q4 == (45 : Int) else false); let q7 := (True ∧ q3 = zG a); ZY [AV.str a] → bF q1 (bF (!zS true q2 || DB.db (iZ ≤ iZ ∧ iZ < (lZ a))) (bF q1 (bF (!zH iZ (lZ a) || zS true q2) (zY q3 (bF (DB.db
 (iZ ≤ iO ∧ iO ≤ (lZ a))) ((∃ (z : Nat), ((z ≤ lN (zu a) ∧ ∀ (i : Nat), i < z → gD (zu a) i (0 : UInt8) ≠ (47 : UInt8)) ∧ List.drop 1 a = List.drop 1 a ∧ q5 ∧ kI ∧ iZ = (cI z)) ∧ True) ∧ ∀ (z : Nat), let q6 := (dK ((cI z) + iO)); (z ≤ lN (zu a) ∧ ∀ (i : Nat), i < z → gD (zu a) i (0 : UInt8) ≠ (47 : UInt8)) → zY (zH (cI z) (lZ (List.drop 1 a))) (zY (DB.db (iZ ≤ (cI z) ∧ (cI z) < (lZ (List.drop 1 a))))
 (zY ((cI (UInt8.toNat (gD (List.drop 1 a) (Int.toNat (↑z : Int)) (0 : UInt8)))) == (47 : Int)) (bF (DB.db (iZ ≤ (cI z) ∧ (cI z) ≤ (lZ (List.drop 1 a)))) (bF q6 (bF (DB.db (iZ ≤ (cI z) + iO ∧ (cI z) + iO ≤ (lZ (List.drop 1 a)))) (4 = lN [AV.junk, AV.junk, AV.junk, AV.junk] ∧ ((q7 ∧ List.take (Int.toNat (cI z)) (List.drop 1 a) = zp (zu a)) ∧ List.drop (Int.toNat ((cI z) + iO)) (List.drop 1 a) = zg (zu a)) ∧ true = zk (zu a))))) (zY
 q6 (∃ (z' : Nat), (((z' ≤ lN (zu a) ∧ ∀ (i : Nat), i < z' → gD (zu a) i (0 : UInt8) ≠ (47 : UInt8)) ∧ lN (zu a) - z' < lN (zu a) - z) ∧ List.drop 1 a = List.drop 1 a ∧ q5 ∧ kI ∧ (cI z) + iO = (cI z')) ∧ True) False)) False) (4 = lN [AV.junk, AV.junk, AV.junk, AV.junk] ∧ ((q7 ∧ List.drop 1 a = zp (zu a)) ∧ bA #[] = zg (zu a)) ∧ false = zk (zu a)))) ((∃ (z : Nat), ((z ≤ lN (zu a) ∧ ∀ (i : Nat), i < z → gD (zu a) i (0 : UInt8) ≠ (47 :
 UInt8)) ∧ a = a ∧ q5 ∧ kI ∧ iZ = (cI z)) ∧ True) ∧ ∀ (z : Nat), let q8 := (dK ((cI z) + iO)); (z ≤ lN (zu a) ∧ ∀ (i : Nat), i < z → gD (zu a) i (0 : UInt8) ≠ (47 : UInt8)) → zY (zH (cI z) (lZ a)) (bF (DB.db (iZ ≤ (cI z) ∧ (cI z) < (lZ a))) (zY ((cI (UInt8.toNat (gD a (Int.toNat (↑z : Int)) (0 : UInt8)))) == (47 : Int)) (bF (DB.db (iZ ≤ (cI z) ∧ (cI z) ≤ (lZ a))) (bF q8 (bF (DB.db (iZ ≤ (↑z :
 Int) + iO ∧ (cI z) + iO ≤ (lZ a))) (4 = lN [AV.junk, AV.junk, AV.junk, AV.junk] ∧ ((q7 ∧ List.take (Int.toNat (cI z)) a = zp (zu a)) ∧ List.drop (Int.toNat ((cI z) + iO)) a = zg (zu a)) ∧ true = zk (zu a))))) (bF q8 (∃ (z' : Nat), (((z' ≤ lN (zu a) ∧ ∀ (i : Nat), i < z' → gD (zu a) i (0 : UInt8) ≠ (47 : UInt8)) ∧ lN (zu a) - z' < lN (zu a) - z) ∧ a = a ∧ q5 ∧ kI ∧ (cI z) + iO = (cI z')) ∧ True)))) (4 = List.length
 [AV.junk, AV.junk, AV.junk, AV.junk] ∧ ((q7 ∧ a = zp (zu a)) ∧ bA #[] = zg (zu a)) ∧ false = zk (zu a))))))) := by
 delta bF dK bA cI kI lZ lN gD iZ iO
 dsimp only
 intro hb
 simp only [sS, dS, Za]
 have em : (Nat.blt 0 a.length && ((a.getD 0 0).toNat : Int) == 45) = zG a := by
  rw [show (((a.getD 0 0).toNat : Int) == 45) = (a.getD 0 0 == 45) from YV (a.getD 0 0) 45 (by decide)]
  unfold zG
  match a with
  | [] => rfl
  | c :: r => simp
 have e47 : ∀ (t : zL) (z : Nat), (((t.getD z 0).toNat : Int) = 47) ↔ t.getD z 0 = 47 := fun t z => by
  have := YV (t.getD z 0) 47 (by decide)
  rw [Bool.eq_iff_iff, beq_iff_eq, beq_iff_eq] at this
  exact this
 have et : ∀ z : Nat, ((z : Int) + 1).toNat = z + 1 := fun z => by omega
 rw [em]
 simp only [e47, et, ne_eq]
 have hol := X6 a
 have key : ∀ t : zL, t = zu a → ((∃ z : Nat, (z ≤ (zu a).length ∧ ∀ i : Nat, i < z → (zu a).getD i 0 ≠ 47) ∧ (0 : Int) = z) ∧
   ∀ z : Nat, (z ≤ (zu a).length ∧ ∀ i : Nat, i < z → (zu a).getD i 0 ≠ 47) →
    ((z : Int) < (t.length : Int) → (0 ≤ (z : Int) ∧ (z : Int) < (t.length : Int)) ∧
     (t.getD z 0 = 47 → (0 ≤ (z : Int) ∧ (z : Int) ≤ (t.length : Int)) ∧ Y1 .i64 ((z : Int) + 1) ∧ (0 ≤ (z : Int) + 1 ∧ (z : Int) + 1 ≤ (t.length : Int)) ∧
      4 = [AV.v (Value.bool (zG a)), AV.str (t.take z), AV.str (t.drop (z + 1)), AV.v (Value.bool true)].length ∧
       ((True ∧ t.take z = zp (zu a)) ∧ t.drop (z + 1) = zg (zu a)) ∧ true = zk (zu a)) ∧
     (t.getD z 0 ≠ 47 → Y1 .i64 ((z : Int) + 1) ∧ ∃ z' : Nat, ((z' ≤ (zu a).length ∧ ∀ i : Nat, i < z' → (zu a).getD i 0 ≠ 47) ∧ (zu a).length - z' < (zu a).length - z) ∧ (z : Int) + 1 = z')) ∧
    ((t.length : Int) ≤ (z : Int) → 4 = [AV.v (Value.bool (zG a)), AV.str t, AV.str [], AV.v (Value.bool false)].length ∧ ((True ∧ t = zp (zu a)) ∧ [] = zg (zu a)) ∧ false = zk (zu a))) := by
  intro t ht
  rw [← ht] at hol ⊢
  refine ⟨⟨0, ⟨Nat.zero_le _, fun i hi => absurd hi (Nat.not_lt_zero _)⟩, rfl⟩, fun z ⟨z1, z2⟩ => ⟨fun hz => ⟨⟨by omega, hz⟩, fun h => ?_, fun h => ⟨⟨by omega, by omega⟩, z + 1, ⟨⟨by omega, fun i hi => ?_⟩, by omega⟩, by omega⟩⟩, fun hz => ?_⟩⟩
  ·obtain ⟨c1, c2, c3⟩ := Mm (s := t) (z := z) (by omega) z2 h
   exact ⟨⟨by omega, by omega⟩, ⟨by omega, by omega⟩, ⟨by omega, by omega⟩, rfl, ⟨⟨trivial, c1.symm⟩, c2.symm⟩, c3.symm⟩
  ·by_cases e : i = z
   ·rw [e]; exact h
   ·exact z2 i (by omega)
  ·obtain ⟨c1, c2, c3⟩ := Pw (s := t) fun i hi => z2 i (by omega)
   exact ⟨rfl, ⟨⟨trivial, c2.symm⟩, c3.symm⟩, c1.symm⟩
 refine ⟨fun h => ⟨Int.le_refl _, by have := (zA _ _).1 h; omega⟩, zv.2 ⟨fun c => ⟨⟨by omega, ?_⟩, key (a.drop 1) (by unfold zu; rw [c]; rfl)⟩, fun c => key a (by unfold zu; rw [c]; rfl)⟩⟩
 rcases sH a with ⟨_, h2⟩ | ⟨h1, _⟩
 ·rw [h2]; simp only [List.length_cons]; omega
 ·rw [c] at h1; cases h1
theorem Ny (a : List UInt8) (hl : a.length ≤ 4294967280) : zT Tryz.prog [] 59 [.str a] (.tup 4 (zt [.b (zG a), .str (zp (zu a)), .str (zg (zu a)), .b (zk (zu a))])) :=
 zU (T := T0) (an := QI a) mixed zq (Eq.mp (by kernel_rfl) (pA a hl))
theorem uk : zQ Tryz.prog [] 59 wY := by
 intro xs ps r h hp
 unfold wY at h
 split at h
 ·skip
  rename_i a
  cases h
  obtain ⟨q0, -⟩ := Zo hp
  exact weaken (ys := [.str a]) ⟨zr _, trivial⟩ (Ny a q0)
 ·cases h
def Pj (s : zL) : Z9 :=
 .two .auto (.two .auto (.two (.two .auto (.one (.loop Nat (fun σ z => [(0, σ.tm 0), (3, .i (zm (s.take z) : Int)), (4, .i z)]) (fun σ z => []) 0 (fun σ z => z ≤ s.length) (fun σ z => s.length - z) .auto))) .auto))
def W8 : List AV → Option (List zn × AV)
 | [.str s] => some ([.p (z6 s = true), .p (s.length ≤ 18)], .i (zm s : Int))
 | _ => none
theorem pr (s : List UInt8) (hd : z6 s = true) (hl : s.length ≤ 18) :
 ZY [AV.str s] → (∃ (z : Nat), (z ≤ lN s ∧ s = s ∧ (kI ∧ iZ = (cI (zm (List.take z s)))) ∧ kI ∧ iZ = (cI z)) ∧ True) ∧ ∀ (z : Nat), let q1 := ((cI (UInt8.toNat (gD s (Int.toNat (↑z : Int)) (0 : UInt8)))) - (48 : Int)); z ≤ lN s → zY (zH (cI z) (lZ s)) (bF (dK ((10 : Int) * (cI (zm (List.take z s))))) (bF (DB.db (iZ ≤ (cI z) ∧ (cI z) < (lZ s))) (bF (DB.db (Y1 IntKind.u8 q1)) (bF (dK q1) (bF (DB.db
 (Y1 .i64 ((10 : Int) * (cI (zm (List.take z s))) + q1))) (bF (dK ((cI z) + iO)) (∃ (z' : Nat), ((z' ≤ lN s ∧ lN s - z' < lN s - z) ∧ s = s ∧ (kI ∧ (10 : Int) * (cI (zm (List.take z s))) + q1 = (cI (zm (List.take z' s)))) ∧ kI ∧ (cI z) + iO = (cI z')) ∧ True))))))) (kI ∧ (cI (zm (List.take z s))) = (cI (zm s))) := by
 delta bF dK cI kI lZ lN gD iZ iO
 dsimp only
 intro hb
 simp only [sS, dS, Za]
 have hall := (Zx.1 hd).2.1
 refine ⟨⟨0, Nat.zero_le _, rfl, rfl⟩, fun z hz => ⟨fun hlt => ?_, fun hge => ?_⟩⟩
 ·have hc := yR.1 (hall _ (We (s := s) (i := z) (by omega)))
  have hst : (zm (s.take (z + 1)) : Int) = 10 * (zm (s.take z) : Int) + (((s.getD z 0).toNat : Int) - 48) := by
   rw [Xq (by omega), Y5]
   unfold vZ
   omega
  have b1 : zm (s.take (z + 1)) < 10 ^ 18 := by
   have h1 := Xh (l := s.take (z + 1)) (List.all_eq_true.2 fun c hc => hall c (List.mem_of_mem_take hc))
   exact Nat.lt_of_lt_of_le h1 (Nat.pow_le_pow_right (by omega) (by rw [List.length_take]; omega))
  exact ⟨⟨by omega, by omega⟩, ⟨by omega, hlt⟩, ⟨by omega, by omega⟩, ⟨by omega, by omega⟩, ⟨by omega, by omega⟩, ⟨by omega, by omega⟩, z + 1, ⟨by omega, by omega⟩, hst.symm, by omega⟩
 ·rw [show z = s.length by omega, List.take_length]
theorem Ng (s : List UInt8) (hd : z6 s = true) (hl : s.length ≤ 18) : zT Tryz.prog [] 62 [.str s] (.i (zm s : Int)) :=
 zU (T := T0) (an := Pj s) mixed zq (Eq.mp (by kernel_rfl) (pr s hd hl))
theorem SK : zQ Tryz.prog [] 62 W8 := by
 intro xs ps r h hp
 unfold W8 at h
 split at h
 ·skip
  rename_i s
  cases h
  obtain ⟨q0, q1, -⟩ := Zo hp
  exact weaken (ys := [.str s]) ⟨zr _, trivial⟩ (Ng s q0 q1)
 ·cases h
def l7 (x y : Int) : Z9 :=
 .two .auto (.two (.one (.loop YT (fun σ z => [(0, .i z.x), (1, .i z.y)]) (fun σ z => []) 0 (fun σ z => 0 ≤ z.x ∧ 0 ≤ z.y ∧ z.x ≤ 9223372036854775807 ∧ z.y ≤ 9223372036854775807 ∧ Nat.gcd z.x.toNat z.y.toNat = Nat.gcd x.toNat y.toNat) (fun σ z => z.y.toNat) .auto)) .auto)
def S9 : List AV → Option (List zn × AV)
 | [.v (.int .i64 x), .v (.int .i64 y)] => some ([.p (0 ≤ x ∧ x ≤ 9223372036854775807), .p (0 ≤ y ∧ y ≤ 9223372036854775807)], .i (Nat.gcd x.toNat y.toNat : Int))
 | _ => none
theorem LH (x : Int) (y : Int) (h1 : 0 ≤ x ∧ x ≤ 9223372036854775807) (h2 : 0 ≤ y ∧ y ≤ 9223372036854775807) :
 ZY [aI x, aI y] → (∃ (z : YT), ((iZ ≤ YT.x z ∧ iZ ≤ YT.y z ∧ YT.x z ≤ iX ∧ YT.y z ≤ iX ∧ Nat.gcd (Int.toNat (YT.x z)) (Int.toNat (YT.y z)) = Nat.gcd (Int.toNat x) (Int.toNat y)) ∧ (kI ∧ x = YT.x z) ∧ kI ∧ y = YT.y z) ∧ True) ∧ ∀ (z : YT), iZ ≤ YT.x z ∧ iZ ≤ YT.y z ∧ YT.x z ≤ iX ∧ YT.y z ≤ iX ∧ Nat.gcd (Int.toNat (YT.x z)) (Int.toNat (YT.y z)) = Nat.gcd (Int.toNat x) (Int.toNat y) →
 zY (YT.y z != iZ) (bF (DB.db (YT.y z ≠ iZ)) (∃ (z' : YT), (((iZ ≤ YT.x z' ∧ iZ ≤ YT.y z' ∧ YT.x z' ≤ iX ∧ YT.y z' ≤ iX ∧ Nat.gcd (Int.toNat (YT.x z')) (Int.toNat (YT.y z')) = Nat.gcd (Int.toNat x) (Int.toNat y)) ∧ Int.toNat (YT.y z') < Int.toNat (YT.y z)) ∧ (kI ∧ YT.y z = YT.x z') ∧ kI ∧ Int.tmod (YT.x z) (YT.y z) = YT.y z') ∧ True)) (kI ∧ YT.x z = (cI (Nat.gcd (Int.toNat x) (Int.toNat y)))) := by
 delta bF cI kI iZ iX aI
 intro hb
 simp only [sS, dS]
 refine ⟨⟨⟨x, y⟩, ⟨h1.1, h2.1, h1.2, h2.2, rfl⟩, rfl, rfl⟩, fun z ⟨z1, z2, z3, z4, z5⟩ => ⟨fun hy => ?_, fun hy => ?_⟩⟩
 ·generalize z.x = zx at *
  generalize z.y = zy at *
  obtain ⟨X, rfl⟩ : ∃ X : Nat, zx = X := ⟨zx.toNat, by omega⟩
  obtain ⟨Y, rfl⟩ : ∃ Y : Nat, zy = Y := ⟨zy.toNat, by omega⟩
  have tm : (X : Int).tmod (Y : Int) = ((X % Y : Nat) : Int) := by rw [Int.tmod_eq_emod_of_nonneg (by omega)]; omega
  have hm : X % Y < Y := Nat.mod_lt _ (by omega)
  refine ⟨hy, ⟨Y, ((X % Y : Nat) : Int)⟩, ⟨⟨by simp only; omega, by simp only; omega, by simp only; omega, by simp only; omega, ?_⟩, by simp only; omega⟩, rfl, tm⟩
  simp only [Int.toNat_natCast] at z5 ⊢
  rw [← wx (by omega)]; exact z5
 ·rw [hy] at z5
  simp only [Int.toNat_zero, Nat.gcd_zero_right] at z5
  omega
theorem jv (x : Int) (y : Int) (h1 : 0 ≤ x ∧ x ≤ 9223372036854775807) (h2 : 0 ≤ y ∧ y ≤ 9223372036854775807) : zT Tryz.prog [] 61 [.i x, .i y] (.i (Nat.gcd x.toNat y.toNat : Int)) :=
 zU (T := T0) (an := l7 x y) mixed zq (Eq.mp (by kernel_rfl) (LH x y h1 h2))
theorem j9 : zQ Tryz.prog [] 61 S9 := by
 intro xs ps r h hp
 unfold S9 at h
 split at h
 ·skip
  rename_i x y
  cases h
  obtain ⟨q0, q1, -⟩ := Zo hp
  exact weaken (ys := [.i x, .i y]) ⟨zr _, zr _, trivial⟩ (jv x y q0 q1)
 ·cases h
end Go.Te
