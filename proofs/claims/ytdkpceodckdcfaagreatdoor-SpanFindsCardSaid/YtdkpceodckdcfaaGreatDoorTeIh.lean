/- integer: short division, the estimate, products in new memory. -/
import Derived.Test.YtdkpceodckdcfaaGreatDoorTeIc
set_option linter.unusedSimpArgs false
set_option linter.unusedVariables false
namespace Go.Te
open Go Go.Sx Go.Proofs Go.Ar
set_option maxRecDepth 100000
set_option maxHeartbeats 4000000
def Zc : OB → List Int
 | .arr _ _ n els => (List.range n).map fun i => AV.int (els i 0)
 | _ => []
theorem GW (l : List Int) : Zc (OB.arr 3 1 l.length fun i x => AV.v (Value.int IntKind.i64 (l.getD i 0))) = l := by
 have e : ((List.range l.length).map fun i => l.getD i 0) = l := by
  apply List.ext_getElem
  ·simp
  ·intro i h1 h2
   rw [List.getElem_map, List.getElem_range, List.getD_eq_getElem?_getD, List.getElem?_eq_getElem h2]
   rfl
 exact e
def TD  : yW :=
 .two .auto (.two (.one (.loop Nat (fun σ z => [(0, .ns (Yx (σ.tm 0)) 0 z)]) (fun σ z => []) 0 (fun σ z => z ≤ (Zc (σ.bl (Yx (σ.tm 0)))).length ∧ ∀ i, z ≤ i → (Zc (σ.bl (Yx (σ.tm 0)))).getD i 0 = 0) (fun σ z => z) .auto)) .auto)
theorem T1 {l : List Int} {z : Nat} (h1 : z ≤ l.length) (h2 : ∀ i, z ≤ i → l.getD i 0 = 0) (c : (zn 0 (z : Int) && l.getD ((z : Int) - 1).toNat 0 == 0) = false) : zm l = l.take z := by
 refine wq h1 h2 ?_
 by_cases hz : z = 0
 ·exact .inl hz
 ·refine .inr fun e => ?_
  rw [(zq _ _).2 (by omega), show ((z : Int) - 1).toNat = z - 1 by omega, e] at c
  cases c
theorem sK {l : List Int} {z : Nat} (h2 : ∀ i, z ≤ i → l.getD i 0 = 0) (c : (zn 0 (z : Int) && l.getD ((z : Int) - 1).toNat 0 == 0) = true) : 0 < z ∧ ∀ i, z - 1 ≤ i → l.getD i 0 = 0 := by
 rw [Bool.and_eq_true, beq_iff_eq, zq] at c
 have c2 := c.2
 rw [show ((z : Int) - 1).toNat = z - 1 by omega] at c2
 refine ⟨by omega, fun i hi => ?_⟩
 by_cases e : i = z - 1
 ·rw [e]; exact c2
 ·exact h2 i (by omega)
theorem fQ {l m : List Int} {z : Nat} (hz : z ≤ m.length) (h : m.take z = l) : zc (AV.xl false 1 z fun i x => AV.v (Value.int IntKind.i64 (m.getD i 0))) (AV.xl false 1 l.length fun i j => AV.v (Value.int IntKind.i64 (l.getD i 0))) := by
 have hl : z = l.length := by rw [← h, List.length_take]; omega
 rw [← hl]
 refine ⟨fun h => h, rfl, rfl, fun i j hi _ => ?_⟩
 rw [← h]
 show zc (AV.v (Value.int IntKind.i64 (m.getD i 0))) (AV.v (Value.int IntKind.i64 ((m.take z).getD i 0)))
 rw [YB hi]
 exact zX _
noncomputable def Gc : Tb := (T0.plus 212 W4).body Tryz.prog [(239, .auto), (212, TD)]
theorem nV : zY Tryz.prog Gc := zY.body mixed (zY.plus zr UU) _
structure Y3 where
 z : Nat
 q : List Int
 r : Int
def JC (a : List Int) (d : Int) : yW :=
 .two .auto (.one (.loop Y3 (fun σ z => [(0, σ.tm 0), (1, σ.tm 1), (3, .i ((z.z : Int) - 1))]) (fun _ z => [(2, w8 z.q), (3, .box 3 1 fun _ => .i z.r)]) 0
  (fun _ z => UV 1000000000 d a z.z z.q z.r) (fun _ z => z.z) .auto))
def Jw (a : List Int) (d : Int) : yW :=
 .two .auto (.two .auto (.two .auto (.two (.two .auto (.one (.range (JC a d) .auto .auto))) .auto)))
def SX : List AV → Option (List zN × AV)
 | [x_a, .v (.int .i64 d)] => some ([.b (za Int x_a), .p (Zv 1000000000 (zv x_a)), .p (0 < d ∧ d ≤ 1000000000), .p ((zv x_a).length ≤ 1000000000)], .tup 2 (zT [Zp (zw 1000000000 ((zW 1000000000 (zv x_a)).toNat / d.toNat)), Zp (zw 1000000000 ((zW 1000000000 (zv x_a)).toNat % d.toNat))]))
 | _ => none
theorem N7 (a : List Int) (d : Int) (ha : Zv 1000000000 a) (hd : 0 < d ∧ d ≤ 1000000000) (hl : a.length ≤ 1000000000) :
 let q1 := ((3 = 3 ∧ 1 = 1 ∧ kI ∧ d = d) ∧ 57 = 57 ∧ 1 = 1 ∧ nat_lit 2 = 2 ∧ 0 = 0 ∧ Int.toNat (lZ a) = Int.toNat (lZ a)); let q2 := (xI a); let q13 := (zw 1000000000 (Int.toNat (zW iB a) / Int.toNat d)); let q12 := (xI q13); let q17 := (zw 1000000000 (Int.toNat (zW iB a) % Int.toNat d)); let q16 := (AV.xl false 1 (lN q17) fun i
 j => aI (gD q17 i zp.dflt)); zB [xI a, aI d] → bF (DB.db (iZ ≤ (lZ a) ∧ (lZ a) ≤ (lZ a) ∧ (↑8 : Int) * (lZ a) ≤ (140737488355328 : Int))) (bF (dK ((lZ a) - iO)) ((∃ (z : Y3), (UV iB d a (Y3.z z) (Y3.q z) (Y3.r z) ∧ nat_lit 5 = 5 ∧ (nat_lit 4 = 4 ∧ 0 = 0) ∧ kI ∧ (lZ a) - iO =
 (cI (Y3.z z)) - iO) ∧ (((q1 ∧ (3 : TypeId) = 3 ∧ 1 = 1 ∧ lN (Y3.q z) = Int.toNat (lZ a) ∧ ∀ (i j : Nat), i < Int.toNat (lZ a) → j < 1 → zc (Zf (Value.int .i64 iZ) j) (aI (gD (Y3.q z) i iZ))) ∧ (3 : TypeId) = 3 ∧ 1 = 1 ∧ kI ∧ iZ = Y3.r z) ∧ 57 = 57 ∧ 1 = 1 ∧ zc q2 q2) ∧ lR) ∧ ∀ (z : Y3), let q3 := (gD a (Int.toNat ((cI (Y3.z z)) - iO)) zp.dflt + Y3.r z * iB); let q4 := (Int.tdiv
 q3 d); let q6 := (bF (dK ((cI (Y3.z z)) - iO - iO)) (∃ (z' : Y3), ((UV iB d a (Y3.z z') (Y3.q z') (Y3.r z') ∧ Y3.z z' < Y3.z z) ∧ nat_lit 5 = 5 ∧ (nat_lit 4 = 4 ∧ 0 = 0) ∧ kI ∧ (cI (Y3.z z)) - iO - iO = (cI (Y3.z z')) - iO) ∧ (((q1 ∧ 3 = 3 ∧ 1 = 1 ∧ lN (Y3.q z') = lN (Y3.q z) ∧ ∀ (i j : Nat), i < lN (Y3.q z) → j < 1 → zc (if i = 0 + Int.toNat ((cI (Y3.z z)) - iO) ∧ 0 ≤ j ∧ j < 1 then aI q4 else aI (List.getD
 (Y3.q z) i iZ)) (aI (gD (Y3.q z') i iZ))) ∧ 3 = 3 ∧ 1 = 1 ∧ kI ∧ Int.tmod q3 d = Y3.r z') ∧ 57 = 57 ∧ 1 = 1 ∧ zc q2 q2) ∧ lR)); let q5 := ((bF (DB.db (d ≠ iZ)) q6 ∧ bF (DB.db (d ≠ iZ)) q6) ∧ bF (DB.db (d ≠ iZ)) q6); let q9 := (Zc (OB.arr (3 : TypeId) 1 (lN (Y3.q z)) fun (i x : Nat) => aI (gD (Y3.q z) i iZ))); let q10 := (((q1 ∧ 3 = 3 ∧ 1 = 1 ∧ lN (Y3.q z) = List.length
 (Y3.q z) ∧ ∀ (i j : Nat), i < lN (Y3.q z) → j < 1 → kI ∧ gD (Y3.q z) i iZ = gD (Y3.q z) i iZ) ∧ 3 = 3 ∧ 1 = 1 ∧ kI ∧ Y3.r z = Y3.r z) ∧ 57 = 57 ∧ 1 = 1 ∧ zc q2 q2); let q8 := (∃ (z_1 : Nat), ((z_1 ≤ lN q9 ∧ ∀ (i : Nat), z_1 ≤ i → gD (Zc (OB.arr (3 : TypeId) 1 (lN (Y3.q z)) fun (i x : Nat) => aI (gD (Y3.q z) i iZ))) i iZ = iZ) ∧ nat_lit 2 = 2 ∧ 0 = 0 ∧ z_1 = Int.toNat (lZ a)) ∧ q10 ∧ True); let q15 := (zm (zv (AV.xl
 true 1 1 (Sx.rowAt [fun (x : Nat) => aI (Y3.r z)])))); let q14 := (xI q15); let q7 := (q8 ∧ ∀ (z_1 : Nat), let q11 := (!zU true (zn iZ (cI z_1)) || zU true (zn iZ (cI z_1))); (z_1 ≤ lN q9 ∧ ∀ (i : Nat), z_1 ≤ i → gD (Zc (OB.arr (3 : TypeId) 1 (lN (Y3.q z)) fun (i x : Nat) => aI (gD (Y3.q z) i iZ))) i iZ = iZ) → bF q11 (bF q11 (bF (!zU true (zn iZ (cI z_1)) ||
 dK ((cI z_1) - iO)) (bF q11 (bF q11 (bF (!zU true (zn iZ (cI z_1)) || DB.db (iZ ≤ (cI z_1) - iO ∧ (cI z_1) - iO < (cI z_1))) (bF q11 (bF q11 (bF (!zn iZ (cI z_1) || zU true (zn iZ (cI z_1))) (zZ (bif zn iZ (cI z_1) then gD (Y3.q z) (0 + Int.toNat ((cI z_1) - iO)) iZ == iZ else false) (bF (dK ((cI z_1) - iO)) (bF (DB.db (iZ ≤ (cI z_1) - iO ∧ (cI z_1) - iO ≤ (↑z_1 :
 Int))) (∃ (z' : Nat), (((z' ≤ lN q9 ∧ ∀ (i : Nat), z' ≤ i → gD (Zc (OB.arr (3 : TypeId) 1 (lN (Y3.q z)) fun (i x : Nat) => aI (gD (Y3.q z) i iZ))) i iZ = iZ) ∧ z' < z_1) ∧ nat_lit 2 = 2 ∧ 0 = 0 ∧ z' = Int.toNat ((cI z_1) - iO)) ∧ q10 ∧ True))) (j2 ∧ (True ∧ zc (AV.xl false 1 z_1 fun i j => aI (gD (Y3.q z) (0 + i) iZ)) q12) ∧ zc q14 q16))))))))))); UV iB d a
 (Y3.z z) (Y3.q z) (Y3.r z) → zZ (leB iZ ((cI (Y3.z z)) - iO)) (bF (DB.db (iZ ≤ (cI (Y3.z z)) - iO ∧ (cI (Y3.z z)) - iO < (lZ a))) (bF (dK (Y3.r z * iB)) (bF (dK q3) (bF (DB.db (d ≠ iZ)) (bF (dK q4) (bF (DB.db (iZ ≤ (cI (Y3.z z)) - iO ∧ (cI (Y3.z z)) - iO < (cI (Int.toNat (lZ a))))) (q5 ∧ q5 ∧ bF (DB.db (d ≠ iZ)) q6))))))) (q7 ∧
 q7 ∧ q8 ∧ ∀ (z_1 : Nat), let q18 := (!zU true (zn iZ (cI z_1)) || zU true (zn iZ (cI z_1))); (z_1 ≤ lN q9 ∧ ∀ (i : Nat), z_1 ≤ i → gD (Zc (OB.arr (3 : TypeId) 1 (lN (Y3.q z)) fun (i x : Nat) => aI (gD (Y3.q z) i iZ))) i iZ = iZ) → bF q18 (bF q18 (bF (!zU true (zn iZ (cI z_1)) || dK ((cI z_1) - iO)) (bF q18 (bF q18 (bF (!zU true (zn iZ (cI z_1)) || DB.db (iZ ≤ (cI z_1) - iO ∧ (cI z_1) - (1 :
 Int) < (cI z_1))) (bF q18 (bF q18 (bF (!zn iZ (cI z_1) || zU true (zn iZ (cI z_1))) (zZ (bif zn iZ (cI z_1) then gD (Y3.q z) (0 + Int.toNat ((cI z_1) - iO)) iZ == iZ else false) (bF (dK ((cI z_1) - iO)) (bF (DB.db (iZ ≤ (cI z_1) - iO ∧ (cI z_1) - iO ≤ (cI z_1))) (∃ (z' : Nat), (((z' ≤ lN q9 ∧ ∀ (i : Nat), z' ≤ i → gD (Zc (OB.arr (3 : TypeId) 1 (lN (Y3.q z)) fun (i x : Nat) => aI (List.getD
 (Y3.q z) i iZ))) i iZ = iZ) ∧ z' < z_1) ∧ nat_lit 2 = 2 ∧ 0 = 0 ∧ z' = Int.toNat ((cI z_1) - iO)) ∧ q10 ∧ True))) (j2 ∧ (True ∧ zc (AV.xl false 1 z_1 fun i j => aI (gD (Y3.q z) (0 + i) iZ)) q12) ∧ zc q14 q16))))))))))))) := by
 delta bF dK xI lR cI kI j2 lZ lN gD iZ iO iB aI
 dsimp only
 intro hb
 have e0 : (zp.dflt : Int) = 0 := rfl
 simp only [↓ZK, ↓ZT, row_one]
 simp only [sS, dS, e0]
 simp only [and_self, GW, implies_true, and_true]
 obtain ⟨d0, d1⟩ := hd
 have va := zj (b := 1000000000) (by omega) ha
 refine ⟨⟨by omega, by omega, by omega⟩, ⟨by omega, by omega⟩, ⟨⟨a.length, List.replicate a.length 0, 0⟩, ⟨.start (by omega) d0 a, rfl⟩, ⟨by simp, fun i j _ hj => wB _ i j hj⟩, rfl⟩, fun z z1 => ⟨fun hz => ?_, fun hz => ?_⟩⟩
 ·have zle := z1.le
  have zl := z1.len
  have R0 := z1.r0
  have R1 := z1.r1
  have hzk : z.z - 1 + 1 = z.z := by omega
  obtain ⟨⟨n0, n1⟩, hs⟩ := (hzk.symm ▸ z1 : UV 1000000000 d a (z.z - 1 + 1) z.q z.r).step (by omega) ha
  have ek : ((z.z : Int) - 1).toNat = z.z - 1 := by omega
  rw [ek]
  have xk := ha.get (by omega) (z.z - 1)
  have q1 := hs.in_.get (by omega) (z.z - 1)
  rw [Yv _ _ _ _ (by omega), if_pos rfl] at q1
  generalize a.getD (z.z - 1) 0 + z.r * 1000000000 = N at *
  exact ⟨⟨by omega, by omega⟩, ⟨by omega, by omega⟩, ⟨by omega, by omega⟩, by omega, ⟨by omega, by omega⟩, ⟨by omega, by omega⟩, by omega, ⟨by omega, by omega⟩, ⟨z.z - 1, _, _⟩, ⟨⟨hs, by simp only; omega⟩, by simp only; omega⟩, ⟨by simp, fun i j _ => uG _ _ _ (by omega) i j⟩, rfl⟩
 ·have zl := z1.len
  have hz0 : z.z = 0 := by have := z1.le; omega
  obtain ⟨D, rfl⟩ : ∃ D : Nat, d = D := ⟨d.toNat, by omega⟩
  obtain ⟨X, hX⟩ : ∃ X : Nat, zW 1000000000 a = X := ⟨(zW 1000000000 a).toNat, by omega⟩
  obtain ⟨t1, _, t3⟩ := (hz0 ▸ z1 : UV 1000000000 D a 0 z.q z.r).end_ (b := 1000000000) (by omega) (by omega) (by omega) X hX
  rw [hX]
  simp only [Int.toNat_natCast]
  refine ⟨⟨a.length, ⟨by omega, fun i hi => wv (by omega)⟩, rfl⟩, fun k ⟨k1, k2⟩ => ⟨fun h => ?_, fun h => ?_, zu.2 ⟨fun c => ?_, fun c => ?_⟩⟩⟩
  ·have := (zq _ _).1 h; exact ⟨by omega, by omega⟩
  ·have := (zq _ _).1 h; exact ⟨by omega, by omega⟩
  ·obtain ⟨c1, c2⟩ := sK k2 c
   exact ⟨⟨by omega, by omega⟩, ⟨by omega, by omega⟩, k - 1, ⟨⟨by omega, c2⟩, by omega⟩, by omega⟩
  ·have ht := T1 k1 k2 c
   refine ⟨rfl, fQ k1 (ht.symm.trans t1), ?_⟩
   have er : zv (AV.xl true 1 1 fun x j => AV.v (Value.int IntKind.i64 z.r)) = [z.r] := rfl
   rw [er, show zm [z.r] = zw 1000000000 (X % D) from t3]
   exact zX _
theorem K2 (a : List Int) (d : Int) (ha : Zv 1000000000 a) (hd : 0 < d ∧ d ≤ 1000000000) (hl : a.length ≤ 1000000000) : zS Tryz.prog [] 252 [Zp a, .i d] (.tup 2 (zT [Zp (zw 1000000000 ((zW 1000000000 a).toNat / d.toNat)), Zp (zw 1000000000 ((zW 1000000000 a).toNat % d.toNat))])) :=
 zV (T := Gc) (an := Jw a d) mixed nV (Eq.mp (by kernel_rfl) (N7 a d ha hd hl))
theorem ki : zQ Tryz.prog [] 252 SX := by
 intro xs ps r h hp
 unfold SX at h
 split at h
 ·skip
  rename_i x_a d
  cases h
  obtain ⟨q0, q1, q2, q3, -⟩ := Zx hp
  exact weaken (ys := [Zp (zv x_a), .i d]) ⟨zi q0, zX _, trivial⟩ (K2 (zv x_a) d q1 q2 q3)
 ·cases h
def Ve (b u2 v1 v2 : Int) : Nat → Int → Int → Int
 | 0, q, _ => q
 | n + 1, q, r => bif leB b q || (zn r b && zn (r * b + u2) (q * v2)) then (bif leB b (r + v1) then q - 1 else Ve b u2 v1 v2 n (q - 1) (r + v1)) else q
def vP (b : Int) (u v : List Int) (j : Nat) : Int :=
 Ve b (u.getD (j + v.length - 2) 0) (v.getD (v.length - 1) 0) (v.getD (v.length - 2) 0) ((u.getD (j + v.length) 0 * b + u.getD (j + v.length - 1) 0).tdiv (v.getD (v.length - 1) 0)).toNat
  ((u.getD (j + v.length) 0 * b + u.getD (j + v.length - 1) 0).tdiv (v.getD (v.length - 1) 0)) ((u.getD (j + v.length) 0 * b + u.getD (j + v.length - 1) 0).tmod (v.getD (v.length - 1) 0))
structure xM where
 q : Int
 r : Int
def kp (u v : List Int) (j : Int) : yW :=
 .two .auto (.two .auto (.two .auto (.two .auto (.two (.one (.loop xM (fun σ z => [(0, σ.tm 0), (1, σ.tm 1), (2, σ.tm 2), (7, σ.tm 7), (9, .i z.q), (10, .i z.r)]) (fun σ z => []) 0 (fun σ z => 0 ≤ z.q ∧ z.q ≤ 2000000000 ∧ 0 ≤ z.r ∧ z.r < 1000000000 ∧ Ve 1000000000 (u.getD (j.toNat + v.length - 2) 0) (v.getD (v.length - 1) 0) (v.getD (v.length - 2) 0) z.q.toNat z.q z.r = vP 1000000000 u v j.toNat) (fun σ z => z.q.toNat) .auto)) .auto))))
def PZ : List AV → Option (List zN × AV)
 | [x_u, x_v, .v (.int .i64 j)] => some ([.b (za Int x_u), .b (za Int x_v), .p (Zv 1000000000 (zv x_u)), .p (Zv 1000000000 (zv x_v)), .p (2 ≤ (zv x_v).length), .p ((zv x_v).length ≤ 1000000000), .p (0 ≤ j ∧ j + (zv x_v).length < (zv x_u).length), .p (0 < (zv x_v).getD ((zv x_v).length - 1) 0), .p ((zv x_u).getD (j.toNat + (zv x_v).length) 0 ≤ (zv x_v).getD ((zv x_v).length - 1) 0)], .i (vP 1000000000 (zv x_u) (zv x_v) j.toNat))
 | _ => none
theorem jN (u : List Int) (v : List Int) (j : Int) (hu : Zv 1000000000 u) (hv : Zv 1000000000 v) (hn : 2 ≤ v.length) (hl : v.length ≤ 1000000000) (hj : 0 ≤ j ∧ j + v.length < u.length) (h1 : 0 < v.getD (v.length - 1) 0) (hc : u.getD (j.toNat + v.length) 0 ≤ v.getD (v.length - 1) 0) :
 let q2 := (YZ .i64 (j + (lZ v))); let q1 := (DB.db q2); let q3 := (Int.toNat (j + (lZ v))); let q4 := (j + (lZ v) - iO); let q5 := (gD u q3 zp.dflt * iB + gD u (Int.toNat q4) zp.dflt); let q6 := (dK ((lZ v) - iO)); let q7 := (DB.db (iZ ≤ (lZ v) - iO ∧ (lZ v) - iO < (lZ v))); let q9 := (Int.toNat ((lZ v) - iO)); let q8 := (DB.db (gD v q9 zp.dflt ≠ (0 :
 Int))); let q10 := (gD v q9 zp.dflt); let q11 := (gD u (Int.toNat j + lN v - 2) iZ); let q12 := (gD v (lN v - 1) iZ); let q13 := (gD v (lN v - 2) iZ); let q14 := (xI u); let q15 := (xI v); let q16 := (kI ∧ (lZ v) = (lZ v)); let q21 := (j + (lZ v) - (2 : Int)); zB [AV.xl false 1
 (lN u) fun i j => aI (gD u i zp.dflt), xI v, aI j] → bF q1 (bF (DB.db (iZ ≤ j + (lZ v) ∧ j + (lZ v) < (lZ u))) (bF (dK (gD u q3 zp.dflt * iB)) (bF q1 (bF (dK q4) (bF (DB.db (iZ ≤ j + (lZ v) - iO ∧ j + (lZ v) - iO < (lZ u))) (bF (DB.db (YZ .i64
 q5)) (bF q6 (bF q7 (bF q8 (bF (dK (Int.tdiv q5 q10)) (bF q6 (bF q7 (bF q8 ((∃ (z : xM), ((iZ ≤ xM.q z ∧ xM.q z ≤ (2000000000 : Int) ∧ iZ ≤ xM.r z ∧ xM.r z < iB ∧ Ve iB q11 q12 q13 (Int.toNat (xM.q z)) (xM.q z) (xM.r z) = vP iB u v (Int.toNat j)) ∧ zc q14 q14 ∧ zc q15 q15 ∧ (kI ∧ j = j) ∧ q16 ∧ (kI ∧ Int.tdiv q5 q10 = xM.q z) ∧ kI ∧ Int.tmod q5 q10 = xM.r z) ∧ True) ∧ ∀ (z : xM), let q17 := (!zU false (leB iB
 (xM.q z)) || zU false (leB iB (xM.q z))); let q19 := (zU false (leB iB (xM.q z)) && zU true (zn (xM.r z) iB)); let q18 := (!q19 || zU false (leB iB (xM.q z)) && zU true (zn (xM.r z) iB)); let q20 := (xM.q z * gD v (Int.toNat ((lZ v) - (2 : Int))) zp.dflt); let q22 := (xM.r z * iB + gD u (Int.toNat q21) zp.dflt); let q23 := (xM.r z + gD v q9 zp.dflt); iZ ≤ xM.q z ∧ xM.q z ≤ (2000000000 : Int) ∧ iZ ≤ xM.r z ∧ xM.r z <
 iB ∧ Ve iB q11 q12 q13 (Int.toNat (xM.q z)) (xM.q z) (xM.r z) = vP iB u v (Int.toNat j) → bF q17 (zZ q17 (bF q18 (bF (!q19 || dK ((lZ v) - (2 : Int))) (bF q18 (bF q18 (bF (!q19 || DB.db (iZ ≤ (lZ v) - (2 : Int) ∧ (lZ v) - (2 : Int) < (lZ v))) (bF q18 (bF q18 (bF q18 (bF (!q19 || dK q20) (bF q18 (bF (!q19 || dK (xM.r z * iB)) (bF q18 (zZ q18
 (bF (!q19 || DB.db q2) (bF q18 (bF (!q19 || dK q21) (bF q18 (bF q18 (bF (!q19 || DB.db (iZ ≤ j + (lZ v) - (2 : Int) ∧ j + (lZ v) - (2 : Int) < (lZ u))) (bF q18 (bF q18 (bF q18 (bF (!q19 || dK q22) (bF q18 (bF q18 (bF q17 (bF (!zU false (leB iB (xM.q z)) || (!zn (xM.r z) iB || zU false (leB iB (xM.q z)) && zU true (zn (xM.r z) iB))) (bF (!!leB iB (xM.q z) ||
 zU false (leB iB (xM.q z))) (zZ (bif leB iB (xM.q z) then true else bif zn (xM.r z) iB then zn q22 q20 else false) (bF (dK (xM.q z - iO)) (bF q6 (bF q7 (bF (dK q23) (zZ (leB iB q23) (kI ∧ xM.q z - iO = vP iB u v (Int.toNat j)) (∃ (z' : xM), (((iZ ≤ xM.q z' ∧ xM.q z' ≤ (2000000000 : Int) ∧ iZ ≤ xM.r z' ∧ xM.r z' < iB ∧ Ve iB q11 q12 q13 (Int.toNat (xM.q z')) (xM.q z')
 (xM.r z') = vP iB u v (Int.toNat j)) ∧ Int.toNat (xM.q z') < Int.toNat (xM.q z)) ∧ zc q14 q14 ∧ zc q15 q15 ∧ (kI ∧ j = j) ∧ q16 ∧ (kI ∧ xM.q z - iO = xM.q z') ∧ kI ∧ xM.r z + gD v q9 zp.dflt = xM.r z') ∧ True)))))) (kI ∧ xM.q z = vP iB u v (Int.toNat j)))))))))))))))))) False)))))))))))))
 False))))))))))))))) := by
 delta bF dK xI kI lZ lN gD iZ iO iB aI
 dsimp only
 intro hb
 have e0 : (zp.dflt : Int) = 0 := rfl
 simp only [↓ZK, ↓ZT, row_one]
 simp only [sS, dS, e0]
 have hu1 : u.length ≤ 9223372036854775807 := hb.1.1
 have en : ((v.length : Int) - 1).toNat = v.length - 1 := by omega
 have en2 : ((v.length : Int) - 2).toNat = v.length - 2 := by omega
 have ej : (j + (v.length : Int)).toNat = j.toNat + v.length := by omega
 have ej1 : (j + (v.length : Int) - 1).toNat = j.toNat + v.length - 1 := by omega
 have ej2 : (j + (v.length : Int) - 2).toNat = j.toNat + v.length - 2 := by omega
 rw [en, en2, ej, ej1, ej2]
 have hF : vP 1000000000 u v j.toNat = Ve 1000000000 (u.getD (j.toNat + v.length - 2) 0) (v.getD (v.length - 1) 0) (v.getD (v.length - 2) 0) ((u.getD (j.toNat + v.length) 0 * 1000000000 + u.getD (j.toNat + v.length - 1) 0).tdiv (v.getD (v.length - 1) 0)).toNat
  ((u.getD (j.toNat + v.length) 0 * 1000000000 + u.getD (j.toNat + v.length - 1) 0).tdiv (v.getD (v.length - 1) 0)) ((u.getD (j.toNat + v.length) 0 * 1000000000 + u.getD (j.toNat + v.length - 1) 0).tmod (v.getD (v.length - 1) 0)) := rfl
 rw [hF]
 have u0 := hu.get (by omega) (j.toNat + v.length)
 have u1 := hu.get (by omega) (j.toNat + v.length - 1)
 have u2 := hu.get (by omega) (j.toNat + v.length - 2)
 have w1 := hv.get (by omega) (v.length - 1)
 have w2 := hv.get (by omega) (v.length - 2)
 clear hF
 generalize u.getD (j.toNat + v.length) 0 = a0 at *
 generalize u.getD (j.toNat + v.length - 1) 0 = a1 at *
 generalize u.getD (j.toNat + v.length - 2) 0 = a2 at *
 generalize v.getD (v.length - 1) 0 = b1 at *
 generalize v.getD (v.length - 2) 0 = b2 at *
 obtain ⟨e, m0, m1, q0⟩ := LI (n := a0 * 1000000000 + a1) (b := b1) (by omega) h1
 have qle : (a0 * 1000000000 + a1).tdiv b1 ≤ 2000000000 := by
  refine Decidable.byContradiction fun hn => ?_
  have t1 : b1 * 2000000001 ≤ b1 * (a0 * 1000000000 + a1).tdiv b1 := Int.mul_le_mul_of_nonneg_left (by omega) (by omega)
  omega
 generalize (a0 * 1000000000 + a1).tdiv b1 = q at *
 generalize (a0 * 1000000000 + a1).tmod b1 = r at *
 obtain ⟨E, hE⟩ : ∃ E, Ve 1000000000 a2 b1 b2 q.toNat q r = E := ⟨_, rfl⟩
 rw [hE]
 refine ⟨⟨by omega, by omega⟩, ⟨by omega, by omega⟩, ⟨by omega, by omega⟩, ⟨by omega, by omega⟩, ⟨by omega, by omega⟩, ⟨by omega, by omega⟩, ⟨by omega, by omega⟩, ⟨by omega, by omega⟩, ⟨by omega, by omega⟩, by omega, ⟨by omega, by omega⟩, ⟨by omega, by omega⟩, ⟨by omega, by omega⟩, by omega, ⟨⟨q, r⟩, ⟨q0, qle, m0, by simp only; omega, hE⟩, rfl, rfl⟩, fun ⟨Q, R⟩ ⟨z1, z2, z3, z4, z5⟩ => ?_⟩
 simp only at z1 z2 z3 z4 z5 ⊢
 have p0 : 0 ≤ Q * b2 := Int.mul_nonneg z1 w2.1
 have p1 : Q * b2 ≤ Q * 1000000000 := Int.mul_le_mul_of_nonneg_left (by omega) z1
 refine ⟨fun _ => ⟨by omega, by omega⟩, fun _ => ⟨by omega, by omega⟩, fun _ => ⟨by omega, by omega⟩, fun _ => ⟨by omega, by omega⟩, fun _ => ⟨by omega, by omega⟩, fun _ => ⟨by omega, by omega⟩, fun _ => ⟨by omega, by omega⟩, fun _ => ⟨by omega, by omega⟩, ?_⟩
 refine xA (by cases leB 1000000000 Q <;> cases zn R 1000000000 <;> rfl) ?_
 refine zu.2 ⟨fun c => ?_, fun c => ?_⟩
 ·have hQ : 0 < Q := by
   rw [Bool.or_eq_true, zF, Bool.and_eq_true, zq, zq] at c
   rcases c with c | c
   ·omega
   ·refine Decidable.byContradiction fun hn => ?_
    have : Q = 0 := by omega
    rw [this, Int.zero_mul] at c
    omega
  obtain ⟨n, hn⟩ : ∃ n : Nat, Q.toNat = n + 1 := ⟨Q.toNat - 1, by omega⟩
  rw [hn] at z5 ⊢
  unfold Ve at z5
  rw [c, cond_true] at z5
  have hn2 : (Q - 1).toNat = n := by omega
  refine ⟨⟨by omega, by omega⟩, ⟨by omega, by omega⟩, ⟨by omega, by omega⟩, ⟨by omega, by omega⟩, fun h => ?_, fun h => ⟨⟨Q - 1, R + b1⟩, ⟨⟨by simp only; omega, by simp only; omega, by simp only; omega, h, ?_⟩, by simp only; omega⟩, rfl, rfl⟩⟩
  ·rw [(zF _ _).2 h] at z5; exact z5
  ·rw [show leB 1000000000 (R + b1) = false from Bool.eq_false_iff.2 fun e => by have := (zF _ _).1 e; omega] at z5
   rw [← z5]
   simp only [hn2, cond_false]
 ·rw [← z5]
  cases hQ : Q.toNat with
  | zero => rfl
  | succ n => unfold Ve; rw [c]; rfl
theorem IG (u : List Int) (v : List Int) (j : Int) (hu : Zv 1000000000 u) (hv : Zv 1000000000 v) (hn : 2 ≤ v.length) (hl : v.length ≤ 1000000000) (hj : 0 ≤ j ∧ j + v.length < u.length) (h1 : 0 < v.getD (v.length - 1) 0) (hc : u.getD (j.toNat + v.length) 0 ≤ v.getD (v.length - 1) 0) : zS Tryz.prog [] 253 [Zp u, Zp v, .i j] (.i (vP 1000000000 u v j.toNat)) :=
 zV (T := T0) (an := kp u v j) mixed zr (Eq.mp (by kernel_rfl) (jN u v j hu hv hn hl hj h1 hc))
theorem ii : zQ Tryz.prog [] 253 PZ := by
 intro xs ps r h hp
 unfold PZ at h
 split at h
 ·skip
  rename_i x_u x_v j
  cases h
  obtain ⟨q0, q1, q2, q3, q4, q5, q6, q7, q8, -⟩ := Zx hp
  exact weaken (ys := [Zp (zv x_u), Zp (zv x_v), .i j]) ⟨zi q0, zi q1, zX _, trivial⟩ (IG (zv x_u) (zv x_v) j q2 q3 q4 q5 q6 q7 q8)
 ·cases h
noncomputable def Gd : Tb := (T0.plus 237 Vw).body Tryz.prog [(212, TD)]
theorem oS : zY Tryz.prog Gd := zY.body mixed (zY.plus zr rX) _
def vZ (x y : List Int) : List Int := zw 1000000000 (zW 1000000000 x * zW 1000000000 y).toNat
theorem MS (x y : List Int) (hx : Zv 1000000000 x) (hy : Zv 1000000000 y) (hlx : x.length ≤ 1000000000) (hly : y.length ≤ 1000000000) :
 let q1 := ((lZ x) + (lZ y) + iO); let q2 := (xI y); let q3 := (nat_lit 0 = 0 ∧ 0 = 0 ∧ Int.toNat q1 = Int.toNat q1); let q4 := (xI x); let q5 := (kI ∧ (lZ x) = (lZ x)); let q9 := (kI ∧ (lZ y) + iO = (lZ y) + iO); let q13 := (zv q2); zB [AV.xl false 1 (lN x)
 fun i j => aI (gD x i zp.dflt), xI y] → bF (dK ((lZ x) + (lZ y))) (bF (dK q1) (bF (DB.db (iZ ≤ (lZ x) + (lZ y) + iO ∧ (lZ x) + (lZ y) + iO ≤ (lZ x) + (lZ y) + iO ∧ (↑8 : Int) * q1 ≤ (140737488355328 : Int))) ((∃ (z : Zd), ((XJ iB x y (Zd.i z) (Zd.out z) ∧
 Zd.i z ≤ lN x) ∧ zc q2 q2 ∧ q3 ∧ zc q4 q4 ∧ q5 ∧ kI ∧ iZ = (cI (Zd.i z))) ∧ (3 : TypeId) = 3 ∧ 1 = 1 ∧ lN (Zd.out z) = Int.toNat q1 ∧ ∀ (i j : Nat), i < Int.toNat q1 → j < 1 → zc (Zf (Value.int .i64 iZ) j) (aI (gD (Zd.out z) i iZ))) ∧ ∀ (z : Zd), let q6 := (Int.toNat (AV.int (aI (cI (Zd.i z))))); let q7 := (kI ∧ (cI (Zd.i z)) = (cI (Zd.i z))); let q8 := (kI ∧ gD x (Int.toNat (cI (Zd.i z))) zp.dflt = gD x (Int.toNat
 (cI (Zd.i z))) zp.dflt); let q16 := (Zc (OB.arr (3 : TypeId) 1 (lN (Zd.out z)) fun (i x : Nat) => aI (gD (Zd.out z) i iZ))); XJ iB x y (Zd.i z) (Zd.out z) ∧ Zd.i z ≤ lN x → zZ (zn (cI (Zd.i z)) (lZ x)) (bF (DB.db (iZ ≤ (cI (Zd.i z)) ∧ (cI (Zd.i z)) < (lZ x))) (bF (dK ((lZ y) + iO)) ((∃ (z_1 : ZI), ((MulK iB x y q6 (ZI.k z_1) (ZI.out z_1) (ZI.c z_1) ∧ ZI.k z_1 ≤ lN y + 1 ∧
 (ZI.k z_1 = lN y + 1 → ZI.c z_1 = iZ)) ∧ zc q2 q2 ∧ q3 ∧ q7 ∧ q8 ∧ zc q4 q4 ∧ q5 ∧ q7 ∧ q9 ∧ (kI ∧ iZ = ZI.c z_1) ∧ kI ∧ iZ = (cI (ZI.k z_1))) ∧ 3 = 3 ∧ 1 = 1 ∧ lN (ZI.out z_1) = lN (Zd.out z) ∧ ∀ (i j : Nat), i < lN (Zd.out z) → j < 1 → kI ∧ gD (Zd.out z) i iZ = gD (ZI.out z_1) i iZ) ∧ ∀ (z_1 : ZI), let q11 := ((cI (Zd.i z)) + (cI (ZI.k z_1))); let q10 := (dK q11); let q12 := (DB.db (iZ ≤ (cI (Zd.i z)) +
 (cI (ZI.k z_1)) ∧ (cI (Zd.i z)) + (cI (ZI.k z_1)) < (cI (Int.toNat q1)))); let q14 := (0 + Int.toNat q11); let q15 := (gD (ZI.out z_1) q14 iZ + gD x (Int.toNat (cI (Zd.i z))) zp.dflt * gD q13 (Int.toNat (cI (ZI.k z_1))) iZ + ZI.c z_1); MulK iB x y q6 (ZI.k z_1) (ZI.out z_1) (ZI.c z_1) ∧ ZI.k z_1 ≤ lN y + 1 ∧ (ZI.k z_1 = lN y + 1 → ZI.c z_1 = iZ) → zZ (zn (cI (ZI.k z_1)) ((lZ y) + iO)) (bF q10 (bF q12 (bF (za Int q2) (iZ ≤
 (cI (ZI.k z_1)) ∧ bF (dK (gD x (Int.toNat (cI (Zd.i z))) zp.dflt * gD q13 (Int.toNat (cI (ZI.k z_1))) iZ)) (bF (dK (gD (ZI.out z_1) q14 iZ + gD x (Int.toNat (cI (Zd.i z))) zp.dflt * gD q13 (Int.toNat (cI (ZI.k z_1))) iZ)) (bF (dK q15) (bF q10 (bF (dK (Int.tdiv q15 iB)) (bF q12 (bF (dK ((cI (ZI.k z_1)) + iO)) (∃ (z' : ZI), (((MulK iB x y q6 (ZI.k z') (ZI.out z') (ZI.c
 z') ∧ ZI.k z' ≤ lN y + 1 ∧ (ZI.k z' = lN y + 1 → ZI.c z' = iZ)) ∧ lN y + 1 - ZI.k z' < lN y + 1 - ZI.k z_1) ∧ zc q2 q2 ∧ q3 ∧ q7 ∧ q8 ∧ zc q4 q4 ∧ q5 ∧ q7 ∧ q9 ∧ (kI ∧ Int.tdiv q15 iB = ZI.c z') ∧ kI ∧ (cI (ZI.k z_1)) + iO = (cI (ZI.k z'))) ∧ 3 = 3 ∧ 1 = 1 ∧ lN (ZI.out z') = lN (ZI.out z_1) ∧ ∀ (i j : Nat), i < lN (ZI.out z_1) → j < 1 → zc (if i = 0 + Int.toNat q11 ∧ 0 ≤ j ∧ j < 1 then aI (Int.tmod q15 iB) else AV.v
 (Value.int .i64 (gD (ZI.out z_1) i iZ))) (aI (gD (ZI.out z') i iZ))))))))))))) (bF (dK ((cI (Zd.i z)) + iO)) (∃ (z' : Zd), (((XJ iB x y (Zd.i z') (Zd.out z') ∧ Zd.i z' ≤ lN x) ∧ lN x - Zd.i z' < lN x - Zd.i z) ∧ zc q2 q2 ∧ q3 ∧ zc q4 q4 ∧ q5 ∧ kI ∧ (cI (Zd.i z)) + iO = (cI (Zd.i z'))) ∧ 3 = 3 ∧ 1 = 1 ∧ lN (Zd.out z') = lN (ZI.out z_1) ∧ ∀ (i j : Nat), i
 < lN (ZI.out z_1) → j < 1 → kI ∧ gD (ZI.out z_1) i iZ = gD (Zd.out z') i iZ))))) ((∃ (z_1 : Nat), ((z_1 ≤ lN q16 ∧ ∀ (i : Nat), z_1 ≤ i → gD (Zc (OB.arr (3 : TypeId) 1 (lN (Zd.out z)) fun (i x : Nat) => aI (gD (Zd.out z) i iZ))) i iZ = iZ) ∧ nat_lit 0 = 0 ∧ 0 = 0 ∧ z_1 = Int.toNat q1) ∧ 3 = 3 ∧ 1 = 1 ∧ lN (Zd.out z) = lN (Zd.out z) ∧ ∀ (i j : Nat), i < lN (Zd.out z) → j < 1 → kI ∧ gD (Zd.out
 z) i iZ = gD (Zd.out z) i iZ) ∧ ∀ (z_1 : Nat), let q17 := (!zU true (zn iZ (cI z_1)) || zU true (zn iZ (cI z_1))); (z_1 ≤ lN q16 ∧ ∀ (i : Nat), z_1 ≤ i → gD (Zc (OB.arr (3 : TypeId) 1 (lN (Zd.out z)) fun (i x : Nat) => aI (gD (Zd.out z) i iZ))) i iZ = iZ) → bF q17 (bF q17 (bF (!zU true (zn iZ (cI z_1)) || dK ((cI z_1) - iO)) (bF q17 (bF q17 (bF (!zU true (zn iZ (cI z_1)) || DB.db (iZ ≤
 (cI z_1) - iO ∧ (cI z_1) - iO < (cI z_1))) (bF q17 (bF q17 (bF (!zn iZ (cI z_1) || zU true (zn iZ (cI z_1))) (zZ (bif zn iZ (cI z_1) then gD (Zd.out z) (0 + Int.toNat ((cI z_1) - iO)) iZ == iZ else false) (bF (dK ((cI z_1) - iO)) (bF (DB.db (iZ ≤ (cI z_1) - iO ∧ (cI z_1) - iO ≤ (cI z_1))) (∃ (z' : Nat), (((z' ≤ lN q16 ∧ ∀ (i : Nat), z' ≤ i → gD (Zc (OB.arr (3 : TypeId) 1 (lN (Zd.out z))
 fun (i x : Nat) => aI (gD (Zd.out z) i iZ))) i iZ = iZ) ∧ z' < z_1) ∧ nat_lit 0 = 0 ∧ 0 = 0 ∧ z' = Int.toNat ((cI z_1) - iO)) ∧ 3 = 3 ∧ 1 = 1 ∧ lN (Zd.out z) = lN (Zd.out z) ∧ ∀ (i j : Nat), i < lN (Zd.out z) → j < 1 → kI ∧ gD (Zd.out z) i iZ = gD (Zd.out z) i iZ))) (3 = 3 ∧ 1 = 1 ∧ z_1 = lN (vZ x y) ∧ ∀ (i j : Nat), i < lN (vZ x y) → j < 1 → kI ∧ gD (Zd.out z) i iZ = gD (vZ x y) i (0 :
 Int))))))))))))))) := by
 delta bF dK xI cI kI lZ lN gD iZ iO iB aI
 dsimp only
 intro hb
 have e0 : (zp.dflt : Int) = 0 := rfl
 simp only [↓ZK, ↓ZT, row_one]
 simp only [sS, dS, e0, GW, implies_true, and_true]
 have en : ((x.length : Int) + (y.length : Int) + 1).toNat = x.length + y.length + 1 := by omega
 rw [en]
 refine ⟨⟨by omega, by omega⟩, ⟨by omega, by omega⟩, ⟨by omega, Int.le_refl _, by omega⟩, ⟨⟨0, List.replicate (x.length + y.length + 1) 0⟩, ⟨⟨.zero_ (by omega) _ _, Nat.zero_le _⟩, rfl⟩, by simp, fun i j _ hj => wB _ i j hj⟩, fun z ⟨z1, z2⟩ => ⟨fun hz => ⟨⟨by omega, hz⟩, ⟨by omega, by omega⟩, ⟨⟨0, 0, z.out⟩, ⟨⟨z1.start (by omega), Nat.zero_le _, fun h => rfl⟩, rfl, rfl⟩, rfl, fun _ _ _ _ => rfl⟩, fun w ⟨w1, w2, w3⟩ => ⟨fun hk0 => ?_, fun hk0 => ?_⟩⟩, fun hz => ?_⟩⟩
 ·have hz' : z.i < x.length := by omega
  have w4 := w1.len
  have hk : w.k ≤ y.length := by omega
  have ek : ((z.i : Int) + (w.k : Int)).toNat = z.i + w.k := by omega
  rw [ek]
  obtain ⟨⟨n0, n1⟩, hs⟩ := w1.step (by omega) hx hy hz' hk
  have g1 := hx.get (by omega) z.i
  have g2 := hy.get (by omega) w.k
  have g3 := w1.in_.get (by omega) (z.i + w.k)
  have c0 := w1.c0
  have c1 := w1.c1
  have p0 : 0 ≤ x.getD z.i 0 * y.getD w.k 0 := Int.mul_nonneg g1.1 g2.1
  have d0 := hs.c0
  have d1 := hs.c1
  refine ⟨⟨by omega, by omega⟩, ⟨by omega, by omega⟩, by omega, ⟨by omega, by omega⟩, ⟨by omega, by omega⟩, ⟨by omega, by omega⟩, ⟨by omega, by omega⟩, ⟨by omega, by omega⟩, ⟨by omega, by omega⟩, ⟨by omega, by omega⟩, ⟨w.k + 1, _, _⟩, ⟨⟨⟨hs, by simp only; omega, fun h => ?_⟩, by simp only; omega⟩, rfl, rfl⟩, by simp, fun i j _ => uG _ _ _ (by omega) i j⟩
  have hk' : w.k = y.length := by simp only at h; omega
  have := (hk' ▸ w1 : MulK 1000000000 x y z.i y.length w.out w.c).last (by omega)
  rw [← hk'] at this
  exact this
 ·have c0 := w1.c0
  have hc := w3 (by omega)
  exact ⟨⟨by omega, by omega⟩, ⟨z.i + 1, w.out⟩, ⟨⟨⟨w1.fin (by omega) w2 hc, by simp only; omega⟩, by simp only; omega⟩, rfl⟩, rfl, fun _ _ _ _ => rfl⟩
 ·have hz' : z.i = x.length := by omega
  have zl := z1.len
  have he := (hz' ▸ z1 : XJ 1000000000 x y x.length z.out).end_ (b := 1000000000) (by omega)
  refine ⟨⟨x.length + y.length + 1, ⟨by omega, fun i hi => wv (by omega)⟩, rfl⟩, fun k ⟨k1, k2⟩ => ⟨fun h => ?_, fun h => ?_, zu.2 ⟨fun c => ?_, fun c => ?_⟩⟩⟩
  ·have := (zq _ _).1 h; exact ⟨by omega, by omega⟩
  ·have := (zq _ _).1 h; exact ⟨by omega, by omega⟩
  ·obtain ⟨c1, c2⟩ := sK k2 c
   exact ⟨⟨by omega, by omega⟩, ⟨by omega, by omega⟩, k - 1, ⟨⟨by omega, c2⟩, by omega⟩, by omega⟩
  ·have ht := T1 k1 k2 c
   have hp : z.out.take k = vZ x y := ht.symm.trans he
   have hkl : k = (vZ x y).length := by rw [← hp, List.length_take]; omega
   exact ⟨hkl, fun i j hi _ => by rw [← hp, YB (by omega)]⟩
theorem jz {x y : List Int} (hx : Zv 1000000000 x) (hy : Zv 1000000000 y) (hlx : x.length ≤ 1000000000) (hly : y.length ≤ 1000000000) : yk Tryz.prog [] 203 [Zp x, Zp y] 3 1 (vZ x y).length (fun i _ => .i ((vZ x y).getD i 0)) :=
 qq mixed oS (Eq.mp (by kernel_rfl) (MS x y hx hy hlx hly) : ry Tryz.prog Gd 203 (T2 x y) [Zp x, Zp y] 3 1 (vZ x y).length (fun i _ => .i ((vZ x y).getD i 0)))
def Sr : List AV → Option (List zN × TypeId × Nat × Nat × (Nat → Nat → AV))
 | [x, y] => some ([.b (za Int x), .b (za Int y), .p (Zv 1000000000 (zv x)), .p (Zv 1000000000 (zv y)), .p ((zv x).length ≤ 1000000000), .p ((zv y).length ≤ 1000000000)], 3, 1, (vZ (zv x) (zv y)).length, fun i _ => .i ((vZ (zv x) (zv y)).getD i 0))
 | _ => none
theorem js : TX Tryz.prog [] 203 Sr := by
 intro xs ps ty sz len els h hp
 unfold Sr at h
 split at h
 ·rename_i x y
  cases h
  have q0 : za Int x = true := hp (.b (za Int x)) (by simp)
  have q1 : za Int y = true := hp (.b (za Int y)) (by simp)
  have q2 : Zv 1000000000 (zv x) := hp (.p (Zv 1000000000 (zv x))) (by simp)
  have q3 : Zv 1000000000 (zv y) := hp (.p (Zv 1000000000 (zv y))) (by simp)
  have q4 : (zv x).length ≤ 1000000000 := hp (.p ((zv x).length ≤ 1000000000)) (by simp)
  have q5 : (zv y).length ≤ 1000000000 := hp (.p ((zv y).length ≤ 1000000000)) (by simp)
  exact kB (ys := [Zp (zv x), Zp (zv y)]) ⟨zi q0, zi q1, trivial⟩ (jz q2 q3 q4 q5)
 ·cases h
end Go.Te

namespace Go.Te
open Go Go.Sx Go.Proofs Go.Ar
set_option maxRecDepth 100000
set_option maxHeartbeats 4000000
structure Z9 where
 i : Nat
 c : Int
 w : List Int
def LY  : yW :=
 .two .auto (.two .auto (.two (.two .auto (.one (.loop Z9 (fun σ z => [(0, σ.tm 0), (1, σ.tm 1), (2, σ.tm 2), (3, σ.tm 3), (14, σ.tm 14), (9, .i z.c), (15, .i (z.i : Int))]) (fun σ z => [(Yx (σ.tm 0), w8 z.w)]) 0 (fun σ z => WO 1000000000 (Zc (σ.bl (Yx (σ.tm 0)))) (Zc (σ.bl (Yx (σ.tm 1)))) (AV.int (σ.tm 2)).toNat (AV.int (σ.tm 3)) z.i z.w z.c ∧ z.i ≤ (Zc (σ.bl (Yx (σ.tm 1)))).length + 1) (fun σ z => (Zc (σ.bl (Yx (σ.tm 1)))).length + 1 - z.i) .auto))) .auto))
def MH  : yW :=
 .two .auto (.two .auto (.two (.two .auto (.one (.loop Z9 (fun σ z => [(0, σ.tm 0), (1, σ.tm 1), (2, σ.tm 2), (3, σ.tm 3), (14, σ.tm 14), (9, .i z.c), (15, .i (z.i : Int))]) (fun σ z => [(Yx (σ.tm 0), w8 z.w)]) 0 (fun σ z => VK 1000000000 (Zc (σ.bl (Yx (σ.tm 0)))) (Zc (σ.bl (Yx (σ.tm 1)))) (AV.int (σ.tm 2)).toNat (AV.int (σ.tm 3)) z.i z.w z.c ∧ z.i ≤ (Zc (σ.bl (Yx (σ.tm 1)))).length + 1) (fun σ z => (Zc (σ.bl (Yx (σ.tm 1)))).length + 1 - z.i) .auto))) .auto))
noncomputable def Hk : Tb := (((((T0.plus 212 W4).plus 237 Vw).plus 208 SQ).plus 253 PZ).plus 252 SX).plusF 203 Sr
theorem pZ : zY Tryz.prog Hk := zY.plusF (zY.plus (zY.plus (zY.plus (zY.plus (zY.plus zr UU) rX) lS) ii) ki) js
noncomputable def GD : Tb := Hk.body Tryz.prog [(239, .auto), (254, LY), (255, MH)]
theorem Ow : zY Tryz.prog GD := zY.body mixed pZ _
structure yQ where
 j : Nat
 q : List Int
 u : List Int
def uQ (σ : ze) (k : Nat) : Nat :=
 match σ.bl k with
 | .box _ _ cs => Yx (cs 0)
 | _ => 0
def J1 (x : List Int) : yW := .loop Nat (fun σ z => [(0, σ.tm 0), (4, σ.tm 4), (6, σ.tm 6), (7, σ.tm 7), (8, σ.tm 8), (9, σ.tm 9), (61, σ.tm 61)])
 (fun σ z => [(4, .box 57 1 fun _ => .ns σ.nb 0 ((Zc (σ.bl (uQ σ 4))).length + z)), (uQ σ 4, .dead), (σ.nb, w8 (Zc (σ.bl (uQ σ 4)) ++ List.replicate z 0))]) 1
 (fun σ z => z = 0 ∨ (Zc (σ.bl (uQ σ 4))).length + z ≤ x.length + 1) (fun σ z => x.length + 1 - (Zc (σ.bl (uQ σ 4))).length - z) .auto
def Jf (V : Int) : yW := .loop Int (fun σ z => [(4, σ.tm 4), (6, σ.tm 6), (7, σ.tm 7), (8, σ.tm 8), (9, σ.tm 9), (10, .i z)]) (fun _ _ => []) 0
 (fun σ z => 0 ≤ z ∧ z ≤ 2000000000 ∧ zW 1000000000 ((Zc (σ.bl (uQ σ 4))).drop (AV.int (σ.tm 9)).toNat) < (z + 1) * V) (fun σ z => z.toNat) .auto
def iY (A V : Int) (n m : Nat) : yW :=
 .two .auto (.one (.loop yQ (fun σ z => [(0, σ.tm 0), (1, σ.tm 1), (3, .i ((z.j : Int) - 1))]) (fun σ z => [(uQ σ 0, w8 z.q), (uQ σ 4, w8 z.u)]) 0
  (fun _ z => w9 1000000000 A V n m z.j z.q z.u ∧ z.j ≤ m) (fun _ z => z.j) .auto))
def Ig (x : List Int) (A V : Int) (n m : Nat) : yW :=
 .two .auto (.two .auto (.two .auto (.two .auto (.two .auto (.two (.one (J1 x)) (.two .auto (.two (.two .auto (.one (.range (iY A V n m) .auto (.one (.two .auto (.two (.one (Jf V)) .auto)))))) .auto)))))))
def WH (y : List Int) : Int := (1000000000 : Int).tdiv (y.getD (y.length - 1) 0 + 1)
theorem pU (l : List Int) (v : Int) (i : Nat) (h : i < l.length + 1) : (l ++ [v]).getD i 0 = if i < l.length then l.getD i 0 else v := by
 rw [List.getD_eq_getElem?_getD, List.getElem?_append]
 by_cases hi : i < l.length
 ·rw [if_pos hi, if_pos hi, ← List.getD_eq_getElem?_getD]
 ·rw [if_neg hi, if_neg hi, show i - l.length = 0 by omega]; rfl
theorem Gr (l : List Int) (v : Int) : Zc (OB.arr 3 1 (l.length + 1) fun a b => if a < l.length then AV.v (Value.int IntKind.i64 (l.getD a 0)) else AV.v (Value.int IntKind.i64 v)) = l ++ [v] := by
 have e : ((List.range (l.length + 1)).map fun i => AV.int (if i < l.length then AV.v (Value.int IntKind.i64 (l.getD i 0)) else AV.v (Value.int IntKind.i64 v))) = l ++ [v] := by
  apply List.ext_getElem
  ·simp
  ·intro i h1 h2
   rw [List.getElem_map, List.getElem_range]
   have h3 : i < l.length + 1 := by simpa using h2
   have e2 : (l ++ [v])[i] = (l ++ [v]).getD i 0 := by rw [List.getD_eq_getElem?_getD, List.getElem?_eq_getElem h2]; rfl
   rw [e2, pU l v i h3]
   split <;> rfl
 exact e
theorem IZ (r : Int) : zv (AV.xl true 1 1 fun x j => AV.v (Value.int IntKind.i64 r)) = [r] := rfl
theorem oz {b : Int} {k : Nat} {u0 u1 u2 v1 v2 W V : Int} (h : O5 b k u0 u1 u2 v1 v2 W V) (hW : W < b * V) (hV : 0 < V) : ∀ (n : Nat) (q r : Int), mN b (u0 * b + u1) v1 W V q r → ∃ r', mN b (u0 * b + u1) v1 W V (Ve b u2 v1 v2 n q r) r'
 | 0, q, r, hi => ⟨r, hi⟩
 | n + 1, q, r, hi => by
  unfold Ve
  cases hc : (leB b q || (zn r b && zn (r * b + u2) (q * v2))) with
  | false => exact ⟨r, hi⟩
  | true =>
   rw [Bool.or_eq_true, zF, Bool.and_eq_true, zq, zq] at hc
   obtain ⟨_, hs⟩ := h.step hi hW hV (hc.imp id fun x => x.2)
   simp only [cond_true]
   cases leB b (r + v1) with
   | true => exact ⟨_, hs⟩
   | false => exact oz h hW hV n _ _ hs
theorem jU {A V : Int} {v u q : List Int} {m j : Nat} (hv : Zv 1000000000 v) (hV : zW 1000000000 v = V) (hn : 2 ≤ v.length) (h1 : 0 < v.getD (v.length - 1) 0) (hj : j < m) (h : w9 1000000000 A V v.length m (j + 1) q u) :
  (0 ≤ vP 1000000000 u v j ∧ vP 1000000000 u v j ≤ 2000000000 ∧ zW 1000000000 (u.drop j) < (vP 1000000000 u v j + 1) * V) ∧ u.getD (j + v.length) 0 ≤ v.getD (v.length - 1) 0 := by
 obtain ⟨k, hk⟩ : ∃ k, v.length = k + 2 := ⟨v.length - 2, by omega⟩
 have hc := h.est (by omega) hv hV hk (by rw [show k + 1 = v.length - 1 by omega]; exact h1) hj
 obtain ⟨w0, w1⟩ := h.win (by omega) (by omega) hj
 have hV0 : 0 < V := by
  refine Decidable.byContradiction fun hn => ?_
  have : 1000000000 * V ≤ 0 := by omega
  omega
 obtain ⟨r', hr⟩ := oz hc w1 hV0 ((u.getD (j + v.length) 0 * 1000000000 + u.getD (j + v.length - 1) 0).tdiv (v.getD (v.length - 1) 0)).toNat _ _ hc.start
 have hF : vP 1000000000 u v j = Ve 1000000000 (u.getD (j + k) 0) (v.getD (k + 1) 0) (v.getD k 0) ((u.getD (j + v.length) 0 * 1000000000 + u.getD (j + v.length - 1) 0).tdiv (v.getD (v.length - 1) 0)).toNat
   ((u.getD (j + (k + 2)) 0 * 1000000000 + u.getD (j + (k + 1)) 0).tdiv (v.getD (k + 1) 0)) ((u.getD (j + (k + 2)) 0 * 1000000000 + u.getD (j + (k + 1)) 0).tmod (v.getD (k + 1) 0)) := by
  unfold vP
  rw [hk, show j + (k + 2) - 2 = j + k by omega, show j + (k + 2) - 1 = j + (k + 1) by omega, show k + 2 - 1 = k + 1 by omega, show k + 2 - 2 = k by omega]
 rw [← hF] at hr
 have := hr.le
 have a0 := hc.hu0.2
 rw [hk, show k + 2 - 1 = k + 1 by omega]
 exact ⟨⟨hr.q0, by omega, hr.lt⟩, a0⟩
theorem Pi {x : List Int} (hx : Zv 1000000000 x) {f : Int} (hf : 0 ≤ f) : vZ x [f] = zw 1000000000 (zW 1000000000 x * f).toNat ∧ zW 1000000000 (vZ x [f]) = zW 1000000000 x * f ∧ Zv 1000000000 (vZ x [f]) := by
 have v0 := zj (b := 1000000000) (by omega) hx
 have e : vZ x [f] = zw 1000000000 (zW 1000000000 x * f).toNat := by unfold vZ; rw [LC]
 refine ⟨e, ?_, by rw [e]; exact YO (b := 1000000000) (by omega) _⟩
 rw [e, show zW 1000000000 (zw 1000000000 (zW 1000000000 x * f).toNat) = ((zW 1000000000 x * f).toNat : Int) from yN (b := 1000000000) (by omega) _, Int.toNat_of_nonneg (Int.mul_nonneg v0 hf)]
theorem MN {y : List Int} (hy : Zv 1000000000 y) (ty : zm y = y) (hn : y.length ≠ 0) :
  0 < WH y ∧ WH y ≤ 500000000 ∧ (vZ y [WH y]).length = y.length ∧ Zv 1000000000 (vZ y [WH y]) ∧ zW 1000000000 (vZ y [WH y]) = zW 1000000000 y * WH y ∧ 0 < (vZ y [WH y]).getD (y.length - 1) 0 ∧
  (1000000000 : Int) ^ (y.length - 1) ≤ zW 1000000000 y * WH y ∧ 0 < zW 1000000000 y := by
 have g := hy.get (by omega) (y.length - 1)
 have g1 : y.getD (y.length - 1) 0 ≠ 0 := (sq ty).resolve_left hn
 have hF : WH y = (1000000000 : Int).tdiv (y.getD (y.length - 1) 0 + 1) := rfl
 obtain ⟨e, m0, m1, d0⟩ := LI (n := 1000000000) (b := y.getD (y.length - 1) 0 + 1) (by omega) (by omega)
 rw [← hF] at e d0
 have ee : y = zw 1000000000 (zW 1000000000 y).toNat := YI (b := 1000000000) (by omega) hy ty
 have y0 := zj (b := 1000000000) (by omega) hy
 have t1 := xN (b := 1000000000) (by omega) hy (y.length - 1)
 have e3 : zW 1000000000 y = zW 1000000000 (y.take (y.length - 1)) + 1000000000 ^ (y.length - 1) * y.getD (y.length - 1) 0 := by
  rw [← ZL, List.take_of_length_le (by omega)]
 have pp : (0 : Int) < 1000000000 ^ (y.length - 1) := Int.pow_pos (by omega)
 have hpow : (1000000000 : Int) ^ y.length = 1000000000 ^ (y.length - 1) * 1000000000 := by
  obtain ⟨n, hn'⟩ : ∃ n, y.length = n + 1 := ⟨y.length - 1, by omega⟩
  rw [hn', show n + 1 - 1 = n by omega]
  exact Int.pow_succ _ _
 generalize WH y = f at *
 generalize y.getD (y.length - 1) 0 = t at *
 have f1 : 0 < f := by
  refine Decidable.byContradiction fun hf => ?_
  have : f = 0 := by omega
  subst this
  omega
 have f2 : f ≤ 500000000 := by
  have : 2 * f ≤ (t + 1) * f := Int.mul_le_mul_of_nonneg_right (by omega) (by omega)
  omega
 obtain ⟨p1, p2, p3⟩ := Pi hy (f := f) (by omega)
 have y1 : (1000000000 : Int) ^ (y.length - 1) ≤ zW 1000000000 y := by
  have : (1000000000 : Int) ^ (y.length - 1) * 1 ≤ 1000000000 ^ (y.length - 1) * t := Int.mul_le_mul_of_nonneg_left (by omega) (by omega)
  omega
 have yf : zW 1000000000 y ≤ zW 1000000000 y * f := by
  have : zW 1000000000 y * 1 ≤ zW 1000000000 y * f := Int.mul_le_mul_of_nonneg_left (by omega) (by omega)
  omega
 have yu : zW 1000000000 y * f < 1000000000 ^ y.length := by
  have a1 : zW 1000000000 y * f < (1000000000 ^ (y.length - 1) * (t + 1)) * f := Int.mul_lt_mul_of_pos_right (by rw [Int.mul_add]; omega) f1
  have a2 : (1000000000 : Int) ^ (y.length - 1) * ((t + 1) * f) ≤ 1000000000 ^ (y.length - 1) * 1000000000 := Int.mul_le_mul_of_nonneg_left (by omega) (by omega)
  rw [hpow]
  rw [Int.mul_assoc] at a1
  omega
 have hlen : (vZ y [f]).length = y.length := by
  refine Nat.le_antisymm ?_ ?_
  ·rw [p1]
   refine yg (b := 1000000000) (by omega) ?_
   rw [Int.toNat_of_nonneg (by omega)]
   exact yu
  ·have := ZM (b := 1000000000) (m := (zW 1000000000 y).toNat) (n := (zW 1000000000 y * f).toNat) (by omega) (by omega)
   rw [← ee, ← p1] at this
   exact this
 refine ⟨f1, f2, hlen, p3, p2, ?_, by omega, by omega⟩
 have g2 := p3.get (by omega) (y.length - 1)
 have := vr (b := 1000000000) (n := (zW 1000000000 y * f).toNat) (by omega) (by omega)
 rw [← p1, hlen] at this
 omega
theorem pf {P : List Int} {z i : Nat} (h : P.length ≤ i) : (P ++ [0] ++ List.replicate z 0).getD i 0 = 0 := by
 rw [List.append_assoc, List.getD_eq_getElem?_getD, List.getElem?_append_right h]
 have : [(0 : Int)] ++ List.replicate z 0 = List.replicate (z + 1) 0 := rfl
 rw [this, List.getElem?_replicate]
 split <;> rfl
theorem lO {P : List Int} {n m z : Nat} {V : Int} (hP : Zv 1000000000 P) (hn : 0 < n) (hl : P.length + 1 + z = m + n) (hV : (1000000000 : Int) ^ (n - 1) ≤ V) :
  zW 1000000000 ((P ++ [0] ++ List.replicate z 0).drop m) < V ∧ zW 1000000000 (P ++ [0] ++ List.replicate z 0) = zW 1000000000 P ∧ Zv 1000000000 (P ++ [0] ++ List.replicate z 0) ∧ (P ++ [0] ++ List.replicate z 0).length = m + n := by
 have hU : Zv 1000000000 (P ++ [0] ++ List.replicate z 0) := (hP.app (.one (by omega) (by omega))).app (.zeros (by omega) _)
 refine ⟨?_, ?_, hU, by simp; omega⟩
 ·rw [wV (n := n - 1) fun i hi => by rw [ye]; exact pf (by omega)]
  have := (xN (b := 1000000000) (by omega) (hU.drop m) (n - 1)).2
  omega
 ·rw [List.append_assoc, VL, show [(0 : Int)] ++ List.replicate z 0 = List.replicate (z + 1) 0 from rfl, wL, Int.mul_zero, Int.add_zero]
theorem gE {l : List Int} {n : Nat} (h : n = l.length) : za Int (AV.xl false 1 n fun i j => AV.v (Value.int IntKind.i64 (l.getD i 0))) = true ∧ zv (AV.xl false 1 n fun i j => AV.v (Value.int IntKind.i64 (l.getD i 0))) = l := by
 subst h
 exact ⟨YJ _ l, W9 _ l⟩
def S8 : List AV → Option (List zN × AV)
 | [x_x, x_y] => some ([.b (za Int x_x), .b (za Int x_y), .p (Zv 1000000000 (zv x_x)), .p (Zv 1000000000 (zv x_y)), .p (zm (zv x_x) = (zv x_x)), .p (zm (zv x_y) = (zv x_y)), .p ((zv x_y).length ≠ 0), .p ((zv x_x).length ≤ 100000000), .p ((zv x_y).length ≤ 100000000)], .tup 2 (zT [Zp (zw 1000000000 ((zW 1000000000 (zv x_x)).toNat / (zW 1000000000 (zv x_y)).toNat)), Zp (zw 1000000000 ((zW 1000000000 (zv x_x)).toNat % (zW 1000000000 (zv x_y)).toNat))]))
 | _ => none
theorem M9 (x : List Int) (y : List Int) (hx : Zv 1000000000 x) (hy : Zv 1000000000 y) (tx : zm x = x) (ty : zm y = y) (hn : y.length ≠ 0) (hlx : x.length ≤ 100000000) (hly : y.length ≤ 100000000) :
 let q2 := (xI x); let q1 := (za Int q2); let q4 := (xI y); let q3 := (za Int q4); let q6 := (zv q2); let q5 := (∀ (x_1 : Int), List.Mem x_1 q6 → iZ ≤ x_1 ∧ x_1 < iB); let q8 := (zv q4); let q7 := (∀ (x : Int), List.Mem x q8 → iZ ≤ x ∧ x < iB); let q9 := (zw 1000000000 (Int.toNat (zW iB x) / Int.toNat (zW iB y))); let q11 := (zw
 1000000000 (Int.toNat (zW iB x) % Int.toNat (zW iB y))); let q10 := (xI q11); let q13 := (zW iB q6); let q12 := (zw 1000000000 (Int.toNat q13 / Int.toNat (gD y 0 zp.dflt))); let q14 := (xI q9); let q15 := (zw 1000000000 (Int.toNat q13 % Int.toNat (gD y 0 zp.dflt))); let q17 := (Int.toNat ((lZ y) - iO)); let q16 := (gD y
 q17 zp.dflt + iO); let q18 := (Int.tdiv iB q16); let q20 := (Value.int .i64 q18); let q19 := (∀ (x : Int), List.Mem x (zv (AV.xl true 1 1 (Sx.rowAt [fun (x : Nat) => AV.v q20]))) → iZ ≤ x ∧ x < iB); let q21 := (zv (AV.xl true 1 1 (Sx.rowAt [fun (x : Nat) => AV.v q20]))); let q23 := (vZ q6 q21); let q22 := (lN q23 + 1); let q25 := (OB.arr 3 1 q22 fun (a b : Nat) => if a < lN q23 then aI (gD q23 a iZ) else Sx.rowAt [fun (x : Nat) => aI iZ] (a - lN q23) b);
 let q24 := (Zc q25); let q26 := (kI ∧ Int.tdiv iB q16 = Int.tdiv iB q16); let q28 := (vZ q8 q21); let q27 := ((((57 = 57 ∧ 1 = 1 ∧ Value.slice (xf Addr) 0 0 = Array.getD (Value.cells (Value.slice (xf Addr) 0 0)) (nat_lit 0) undef) ∧ True) ∧ True) ∧ 3 = 3 ∧ 1 = 1 ∧ lN q28 = lN q28 ∧ ∀ (i j : Nat), i < lN q28 → j < 1 → kI ∧ gD q28 i iZ = gD q28 i iZ); let q36 := (lN q28); let q35 := (cI q36); let q39 := (max (lN (vZ x [WH y]) + 1) (lN x +
 1) - lN y); let q45 := (AV.xl false 1 q36 fun i j => aI (gD q28 (0 + i) iZ)); let q44 := (za Int q45); let q48 := (zv q45); let q49 := (lN q48 - 1); let q55 := (q35 + iO); let q54 := (dK q55); let q56 := (Zc (OB.arr (3 : TypeId) 1 q36 fun (i x : Nat) => AV.v (Value.int .i64 (gD (vZ q8 (zv (AV.xl true 1 1 (Sx.rowAt [fun (x : Nat) => AV.v q20])))) i iZ)))); let q58 := (nat_lit 3 = 3 ∧ 0 = 0 ∧ lN q28 = lN q28); let q59 := (kI ∧ q35 + iO = q35 + iO);
 zB [xI x, xI y] → bF q1 (bF q3 (q5 ∧ q7 ∧ zZ (zn (cmpL q6 q8) iZ) (j2 ∧ (True ∧ Value.slice (xf Addr) 0 0 = Value.slice (xf Addr) 0 0 ∧ lN q9 = 0) ∧ zc q2 q10) (zZ ((lZ y) == iO) (bF (DB.db (iZ ≤ iZ ∧ iZ < (lZ y))) (bF q1 (q5 ∧ (iZ < gD y 0 zp.dflt ∧ gD y 0 zp.dflt ≤
 iB) ∧ lN q6 ≤ 1000000000 ∧ j2 ∧ (True ∧ zc (xI q12) q14) ∧ zc (xI q15) q10))) (bF (dK ((lZ y) - iO)) (bF (DB.db (iZ ≤ (lZ y) - iO ∧ (lZ y) - iO < (lZ y))) (bF (dK q16) (bF (DB.db (gD y q17 zp.dflt + iO
 ≠ iZ)) (bF (dK q18) (bF q1 (q5 ∧ q19 ∧ lN q6 ≤ 1000000000 ∧ lN q21 ≤ 1000000000 ∧ bF (DB.db (q22 * 8 ≤ 140737488355328)) (bF q3 (q7 ∧ q19 ∧ lN q8 ≤ 1000000000 ∧ lN q21 ≤ 1000000000 ∧ (∃ (z : Nat), let q29 := (Zc q25 ++ List.replicate z iZ); ((z = 0 ∨ lN q24 + z ≤ lN x + 1) ∧ zc q2 q2 ∧ (nat_lit 0 = 0 ∧ 0 = 0) ∧ q26 ∧ (nat_lit 4 = 4 ∧ 0 = 0) ∧ (nat_lit 5 = 5 ∧ 0 = 0) ∧ True ∧ True) ∧ ((q27 ∧ (57 : TypeId) = 57 ∧ 1 = 1 ∧ nat_lit 6 = 6 ∧ 0 = 0 ∧ lN q24 + z = lN q23 + 1) ∧ 57 =
 57 ∧ 1 = 1 ∧ nat_lit 3 = 3 ∧ 0 = 0 ∧ lN q28 = lN q28) ∧ (3 : TypeId) = 3 ∧ 1 = 1 ∧ lN q29 = lN q23 + 1 ∧ ∀ (i j : Nat), i < lN q23 + 1 → j < 1 → zc (if i < lN q23 then aI (gD q23 i iZ) else Sx.rowAt [fun (x : Nat) => aI iZ] (i - lN q23) j) (aI (gD q29 i iZ))) ∧ ∀ (z : Nat), let q31 := (lN q24 + z); let q30 := (cI q31); let q33 := (Zc q25 ++ List.replicate z iZ); let q34 := (q30 - q35); let q38 := (Int.toNat q34); let
 q37 := (cI q38); let q40 := ((((((57 = 57 ∧ 1 = 1 ∧ nat_lit 7 = 7 ∧ 0 = 0 ∧ Int.toNat q34 = Int.toNat q34) ∧ True) ∧ True) ∧ 3 = 3 ∧ 1 = 1 ∧ lN q28 = lN q28 ∧ ∀ (i j : Nat), i < lN q28 → j < 1 → kI ∧ gD q28 i iZ = gD q28 i iZ) ∧ 57 = 57 ∧ 1 = 1 ∧ nat_lit 6 = 6 ∧ 0 = 0 ∧ lN q24 + z = lN q24 + z) ∧ 57 = 57 ∧ 1 = 1 ∧ nat_lit 3 = 3 ∧ 0 = 0 ∧ lN q28 = lN q28); let q57 := (nat_lit 6 = 6 ∧ 0 = 0 ∧ lN q24 + z = lN q24 + z); z = 0 ∨ lN q24 + z ≤ lN x + 1 →
 bF (dK ((lZ x) + iO)) (zZ (zn q30 ((lZ x) + iO)) (bF (DB.db ((lN q24 + z + 1) * 8 ≤ 140737488355328)) (∃ (z' : Nat), let q32 := (Zc q25 ++ List.replicate z' iZ); (((z' = 0 ∨ lN q24 + z' ≤ lN x + 1) ∧ lN x + 1 - lN q24 - z' < lN x + 1 - lN q24 - z) ∧ zc q2 q2 ∧ (nat_lit 0 = 0 ∧ 0 = 0) ∧ q26 ∧ (nat_lit 4 = 4 ∧ 0 = 0) ∧ (nat_lit 5 = 5 ∧ 0 = 0) ∧ True ∧ True) ∧ ((q27 ∧ 57 = 57 ∧ 1 = 1 ∧ nat_lit 6 = 6 ∧ 0 = 0 ∧ lN q24 + z' = lN q24
 + z + 1) ∧ 57 = 57 ∧ 1 = 1 ∧ nat_lit 3 = 3 ∧ 0 = 0 ∧ lN q28 = lN q28) ∧ (3 : TypeId) = 3 ∧ 1 = 1 ∧ lN q32 = lN q24 + z + 1 ∧ ∀ (i j : Nat), i < lN q24 + z + 1 → j < 1 → zc (if i < lN q24 + z then aI (gD q33 i iZ) else Sx.rowAt [fun (x : Nat) => aI iZ] (i - q31) j) (aI (gD q32 i iZ)))) (bF (dK q34) (bF (DB.db (iZ ≤ q30 - q35 ∧ q30 - q35 ≤ q30 - q35 ∧ (↑8 : Int) * q34 ≤ (140737488355328 : Int))) (bF (DB.db (YZ
 .i64 (q37 - iO))) ((∃ (z_1 : yQ), ((w9 iB (zW iB x * WH y) (zW iB y * WH y) (lN y) q39 (yQ.j z_1) (yQ.q z_1) (yQ.u z_1) ∧ yQ.j z_1 ≤ max (lN (vZ x [WH y]) + 1) (lN x + 1) - lN y) ∧ nat_lit 9 = 9 ∧ (nat_lit 8 = 8 ∧ 0 = 0) ∧ kI ∧ q37 - iO = (cI (yQ.j z_1)) - iO) ∧ (((q40 ∧ 3 = 3 ∧ 1 = 1 ∧ lN (yQ.u z_1) = lN q33 ∧ ∀ (i j : Nat), i < lN q33 → j < 1 → kI ∧ gD q33 i iZ = gD (yQ.u z_1) i iZ)
 ∧ (3 : TypeId) = 3 ∧ 1 = 1 ∧ lN (yQ.q z_1) = Int.toNat q34 ∧ ∀ (i j : Nat), i < Int.toNat q34 → j < 1 → zc (Zf (Value.int .i64 iZ) j) (aI (gD (yQ.q z_1) i iZ))) ∧ 57 = 57 ∧ 1 = 1 ∧ nat_lit 7 = 7 ∧ 0 = 0 ∧ Int.toNat q34 = Int.toNat q34) ∧ lR) ∧ ∀ (z_1 : yQ), let q41 := (DB.db (iZ ≤ (cI (yQ.j z_1)) - iO ∧ (cI (yQ.j z_1)) - iO < q37)); let q43 := (AV.xl false 1 q31 fun i j => aI (gD (yQ.u z_1) (0 + i) iZ)); let q42 := (za
 Int q43); let q46 := (zv q43); let q51 := (Int.toNat (AV.int (aI ((cI (yQ.j z_1)) - iO)))); let q52 := (Zc (OB.arr (3 : TypeId) 1 (lN (yQ.u z_1)) fun (i x : Nat) => aI (gD (yQ.u z_1) i iZ))); let q50 := (List.drop q51 q52); let q53 := (kI ∧ (cI (yQ.j z_1)) - iO = (cI (yQ.j z_1)) - iO); let q77 := (zm q46); let q76 := (xI q77); let q78 := (zv q76); let q79 := (AV.xl false 1 q38 fun i
 j => aI (gD (yQ.q z_1) (0 + i) iZ)); let q80 := (zm (zv q79)); let q81 := (zw 1000000000 (Int.toNat (zW iB q78) / Int.toNat q18)); w9 iB (zW iB x * WH y) (zW iB y * WH y) (lN y) q39 (yQ.j z_1) (yQ.q z_1) (yQ.u z_1) ∧ yQ.j z_1 ≤ max (lN (vZ x [WH y]) + 1) (lN x + 1) - lN y → zZ (leB iZ ((cI (yQ.j z_1)) - iO)) (bF q41 (bF q42 (bF q44 ((∀ (x_1 : Int), List.Mem x_1 q46 → iZ ≤ x_1 ∧ x_1 < (1000000000
 : Int)) ∧ (∀ (x : Int), let q47 := (vZ q8 (zv (AV.xl true 1 1 (Sx.rowAt [fun (x : Nat) => AV.v q20])))); List.Mem x (zv (AV.xl false 1 (lN q47) fun i j => aI (gD q47 (0 + i) iZ))) → iZ ≤ x ∧ x < iB) ∧ 2 ≤ lN q48 ∧ lN q48 ≤ 1000000000 ∧ (iZ ≤ (cI (yQ.j z_1)) - iO ∧ (cI (yQ.j z_1)) - iO + (lZ q48) < (lZ q46)) ∧ iZ < gD q48 q49 iZ ∧ gD q46 (Int.toNat ((cI (yQ.j z_1)) - iO) + lN q48) iZ
 ≤ gD q48 q49 iZ ∧ (∃ (z_2 : Int), ((iZ ≤ z_2 ∧ z_2 ≤ (2000000000 : Int) ∧ zW iB q50 < (z_2 + iO) * (zW iB y * WH y)) ∧ (nat_lit 0 = 0 ∧ 0 = 0) ∧ q26 ∧ (nat_lit 4 = 4 ∧ 0 = 0) ∧ (nat_lit 5 = 5 ∧ 0 = 0) ∧ q53 ∧ kI ∧ vP iB q46 q48 (Int.toNat ((cI (yQ.j z_1)) - iO)) = z_2) ∧ (((q40 ∧ 3 = 3 ∧ 1 = 1 ∧ lN (yQ.u z_1) = lN (yQ.u z_1) ∧ ∀ (i j : Nat), i < lN (yQ.u z_1) → j < 1 → kI ∧ gD (yQ.u z_1) i iZ = gD (yQ.u z_1) i (0 :
 Int)) ∧ 3 = 3 ∧ 1 = 1 ∧ lN (yQ.q z_1) = lN (yQ.q z_1) ∧ ∀ (i j : Nat), i < lN (yQ.q z_1) → j < 1 → kI ∧ gD (yQ.q z_1) i iZ = gD (yQ.q z_1) i iZ) ∧ 57 = 57 ∧ 1 = 1 ∧ nat_lit 7 = 7 ∧ 0 = 0 ∧ Int.toNat q34 = Int.toNat q34) ∧ LoopState.busy = LoopState.busy ∧ xf Code = xf Code) ∧ ∀ (z_2 : Int), iZ ≤ z_2 ∧ z_2 ≤ (2000000000 : Int) ∧ zW iB q50 < (z_2 + iO) * (zW iB y * WH y) → bF q54 ((∃ (z_3 : Z9), ((WO iB q52 q56 q51 (AV.int (AV.v (Value.int .i64
 z_2))) (Z9.i z_3) (Z9.w z_3) (Z9.c z_3) ∧ Z9.i z_3 ≤ lN q56 + 1) ∧ q57 ∧ q58 ∧ q53 ∧ (kI ∧ z_2 = z_2) ∧ q59 ∧ (kI ∧ iZ = Z9.c z_3) ∧ kI ∧ iZ = (cI (Z9.i z_3))) ∧ (((q40 ∧ 3 = 3 ∧ 1 = 1 ∧ lN (Z9.w z_3) = lN (yQ.u z_1) ∧ ∀ (i j : Nat), i < lN (yQ.u z_1) → j < 1 → kI ∧ gD (yQ.u z_1) i iZ = gD (Z9.w z_3) i iZ) ∧ 3 = 3 ∧ 1 = 1 ∧ lN (yQ.q z_1) = lN (yQ.q z_1) ∧ ∀ (i j : Nat), i < lN (yQ.q z_1) → j < 1 → IntKind.i64 =
 .i64 ∧ gD (yQ.q z_1) i iZ = gD (yQ.q z_1) i iZ) ∧ 57 = 57 ∧ 1 = 1 ∧ nat_lit 7 = 7 ∧ 0 = 0 ∧ Int.toNat q34 = Int.toNat q34) ∧ LoopState.busy = LoopState.busy ∧ xf Code = xf Code) ∧ ∀ (z_3 : Z9), let q61 := ((cI (yQ.j z_1)) - iO + (cI (Z9.i z_3))); let q60 := (dK q61); let q62 := (DB.db (iZ ≤ (cI (yQ.j z_1)) - iO + (cI (Z9.i z_3)) ∧ (cI (yQ.j z_1)) - iO + (cI (Z9.i z_3)) < q30)); let q63 := (0 + Int.toNat q61); let q64 := (gD (Z9.w z_3) q63 iZ - Z9.c z_3 - z_2 * gD q48
 (Int.toNat (cI (Z9.i z_3))) iZ); let q65 := (-q64 + iB - iO); let q66 := (gD (Z9.w z_3) q63 iZ - Z9.c z_3 - z_2 * gD q48 (Int.toNat (cI (Z9.i z_3))) iZ + Int.tdiv q65 iB * iB); let q67 := (dK ((cI (Z9.i z_3)) + iO)); let q68 := (gD (Z9.w z_3) q63 iZ - Z9.c z_3 - z_2 * gD q48 (Int.toNat (cI (Z9.i z_3))) iZ + iZ * iB); let q69 := (Zc (OB.arr (3 : TypeId) 1 (lN (Z9.w z_3)) fun (i x : Nat) => AV.v
 (Value.int .i64 (gD (Z9.w z_3) i iZ)))); WO iB q52 q56 q51 (AV.int (aI z_2)) (Z9.i z_3) (Z9.w z_3) (Z9.c z_3) ∧ Z9.i z_3 ≤ lN q56 + 1 → zZ (zn (cI (Z9.i z_3)) q55) (bF q60 (bF q62 (bF (dK (gD (Z9.w z_3) q63 iZ - Z9.c z_3)) (bF q44 (iZ ≤ (cI (Z9.i z_3)) ∧ bF (dK (z_2 * gD q48 (Int.toNat (cI (Z9.i z_3))) iZ)) (bF (dK q64) (zZ (zn q64 iZ) (bF (dK (-q64)) (bF (DB.db (YZ .i64
 (-q64 + iB))) (bF (dK q65) (bF (dK (Int.tdiv q65 iB)) (bF q60 (bF (dK (Int.tdiv q65 iB * iB)) (bF (dK q66) (bF q62 (bF q67 (∃ (z' : Z9), (((WO iB q52 q56 q51 (AV.int (aI z_2)) (Z9.i z') (Z9.w z') (Z9.c z') ∧ Z9.i z' ≤ lN q56 + 1) ∧ lN q56 + 1 - Z9.i z' < lN q56 + 1 - Z9.i z_3) ∧ q57 ∧ q58 ∧ q53 ∧ (kI ∧ z_2 = z_2) ∧ q59 ∧ (kI ∧ Int.tdiv q65
 iB = Z9.c z') ∧ kI ∧ (cI (Z9.i z_3)) + iO = (cI (Z9.i z'))) ∧ (((q40 ∧ 3 = 3 ∧ 1 = 1 ∧ lN (Z9.w z') = lN (Z9.w z_3) ∧ ∀ (i j : Nat), i < lN (Z9.w z_3) → j < 1 → zc (if i = 0 + Int.toNat q61 ∧ 0 ≤ j ∧ j < 1 then aI q66 else aI (gD (Z9.w z_3) i iZ)) (aI (gD (Z9.w z') i iZ))) ∧ 3 = 3 ∧ 1 = 1 ∧ lN (yQ.q z_1) = lN (yQ.q z_1) ∧ ∀ (i j : Nat), i < lN (yQ.q z_1) → j < 1 → kI ∧ List.getD
 (yQ.q z_1) i iZ = gD (yQ.q z_1) i iZ) ∧ 57 = 57 ∧ 1 = 1 ∧ nat_lit 7 = 7 ∧ 0 = 0 ∧ Int.toNat q34 = Int.toNat q34) ∧ LoopState.busy = LoopState.busy ∧ xf Code = xf Code)))))))))) (bF q60 (bF (dK q68) (bF q62 (bF q67 (∃ (z' : Z9), (((WO iB q52 q56 q51 (AV.int (aI z_2)) (Z9.i z') (Z9.w z') (Z9.c z') ∧ Z9.i z' ≤ lN q56 + 1) ∧ lN q56 + 1 - Z9.i z' < lN q56 + 1 - Z9.i z_3) ∧ q57 ∧ q58 ∧ q53 ∧ (kI ∧ z_2 = z_2)
 ∧ q59 ∧ (kI ∧ iZ = Z9.c z') ∧ kI ∧ (cI (Z9.i z_3)) + iO = (cI (Z9.i z'))) ∧ (((q40 ∧ 3 = 3 ∧ 1 = 1 ∧ lN (Z9.w z') = lN (Z9.w z_3) ∧ ∀ (i j : Nat), i < lN (Z9.w z_3) → j < 1 → zc (if i = 0 + Int.toNat q61 ∧ 0 ≤ j ∧ j < 1 then aI q68 else aI (gD (Z9.w z_3) i iZ)) (aI (gD (Z9.w z') i iZ))) ∧ 3 = 3 ∧ 1 = 1 ∧ lN (yQ.q z_1) = lN (yQ.q z_1) ∧ ∀ (i j : Nat), i < lN (yQ.q z_1) → j < 1 → IntKind.i64 =
 .i64 ∧ gD (yQ.q z_1) i iZ = gD (yQ.q z_1) i iZ) ∧ 57 = 57 ∧ 1 = 1 ∧ nat_lit 7 = 7 ∧ 0 = 0 ∧ Int.toNat q34 = Int.toNat q34) ∧ LoopState.busy = LoopState.busy ∧ xf Code = xf Code)))))))))))) (zZ (zn iZ (Z9.c z_3)) (bF q54 ((∃ (z_4 : Z9), ((VK iB q69 q56 q51 (AV.int (aI z_2)) (Z9.i z_4) (Z9.w z_4) (Z9.c z_4) ∧ Z9.i z_4 ≤ lN q56 + 1) ∧ q57 ∧ q58 ∧ q53 ∧ (kI ∧ z_2 = z_2) ∧ q59 ∧ (kI ∧ iZ = Z9.c z_4) ∧
 kI ∧ iZ = (cI (Z9.i z_4))) ∧ (((q40 ∧ 3 = 3 ∧ 1 = 1 ∧ lN (Z9.w z_4) = lN (Z9.w z_3) ∧ ∀ (i j : Nat), i < lN (Z9.w z_3) → j < 1 → kI ∧ gD (Z9.w z_3) i iZ = gD (Z9.w z_4) i iZ) ∧ 3 = 3 ∧ 1 = 1 ∧ lN (yQ.q z_1) = lN (yQ.q z_1) ∧ ∀ (i j : Nat), i < lN (yQ.q z_1) → j < 1 → kI ∧ gD (yQ.q z_1) i iZ = gD (yQ.q z_1) i iZ) ∧ 57 = 57 ∧ 1 = 1 ∧ nat_lit 7 = 7 ∧ 0 = 0 ∧ Int.toNat q34 = Int.toNat q34) ∧ LoopState.busy =
 LoopState.busy ∧ xf Code = xf Code) ∧ ∀ (z_4 : Z9), let q71 := ((cI (yQ.j z_1)) - iO + (cI (Z9.i z_4))); let q70 := (dK q71); let q72 := (DB.db (iZ ≤ (cI (yQ.j z_1)) - iO + (cI (Z9.i z_4)) ∧ (cI (yQ.j z_1)) - iO + (cI (Z9.i z_4)) < q30)); let q74 := (0 + Int.toNat q71); let q75 := (gD (Z9.w z_4) q74 iZ + z_2 * gD q48 (Int.toNat (cI (Z9.i z_4))) iZ + Z9.c z_4); let q73 := (iZ ≤ (cI (Z9.i z_4)) ∧ bF (dK (z_2 * gD q48 (Int.toNat (cI (Z9.i z_4))) (0
 : Int))) (bF (dK (gD (Z9.w z_4) q74 iZ + z_2 * gD q48 (Int.toNat (cI (Z9.i z_4))) iZ)) (bF (dK q75) (bF q70 (bF (dK (Int.tdiv q75 iB)) (bF q72 (bF (dK ((cI (Z9.i z_4)) + iO)) (∃ (z' : Z9), (((VK iB q69 q56 q51 (AV.int (aI z_2)) (Z9.i z') (Z9.w z') (Z9.c z') ∧ Z9.i z' ≤ lN q56 + 1) ∧ lN q56 + 1 - Z9.i z' < lN q56 + 1 - Z9.i z_4) ∧ q57 ∧ q58 ∧ q53 ∧ (kI ∧ z_2 = z_2) ∧
 q59 ∧ (kI ∧ Int.tdiv q75 iB = Z9.c z') ∧ kI ∧ (cI (Z9.i z_4)) + iO = (cI (Z9.i z'))) ∧ (((q40 ∧ 3 = 3 ∧ 1 = 1 ∧ lN (Z9.w z') = lN (Z9.w z_4) ∧ ∀ (i j : Nat), i < lN (Z9.w z_4) → j < 1 → zc (if i = 0 + Int.toNat q71 ∧ 0 ≤ j ∧ j < 1 then aI (Int.tmod q75 iB) else aI (gD (Z9.w z_4) i iZ)) (aI (gD (Z9.w z') i iZ))) ∧ 3 = 3 ∧ 1 = 1 ∧ lN (yQ.q z_1) = lN (yQ.q z_1) ∧ ∀ (i j : Nat), i <
 lN (yQ.q z_1) → j < 1 → kI ∧ gD (yQ.q z_1) i iZ = gD (yQ.q z_1) i iZ) ∧ 57 = 57 ∧ 1 = 1 ∧ nat_lit 7 = 7 ∧ 0 = 0 ∧ Int.toNat q34 = Int.toNat q34) ∧ LoopState.busy = LoopState.busy ∧ xf Code = xf Code)))))))); VK iB q69 q56 q51 (AV.int (aI z_2)) (Z9.i z_4) (Z9.w z_4) (Z9.c z_4) ∧ Z9.i z_4 ≤ lN q56 + 1 → zZ (zn (cI (Z9.i z_4)) q55) (bF q70 (bF q72 (bF q44 q73 ∧ bF q44 q73))) (bF (DB.db (YZ .i64
 (z_2 - iO))) (∃ (z' : Int), (((iZ ≤ z' ∧ z' ≤ (2000000000 : Int) ∧ zW iB q50 < (z' + iO) * (zW iB y * WH y)) ∧ Int.toNat z' < Int.toNat z_2) ∧ (nat_lit 0 = 0 ∧ 0 = 0) ∧ q26 ∧ (nat_lit 4 = 4 ∧ 0 = 0) ∧ (nat_lit 5 = 5 ∧ 0 = 0) ∧ q53 ∧ kI ∧ z_2 - iO = z') ∧ (((q40 ∧ 3 = 3 ∧ 1 = 1 ∧ lN (yQ.u z_1) = lN (Z9.w z_4) ∧ ∀ (i j : Nat), i < lN (Z9.w z_4) → j < 1 → kI ∧ gD (Z9.w z_4) i iZ = gD (yQ.u z_1) i iZ) ∧ 3 = 3 ∧ 1 = 1 ∧ lN (yQ.q z_1) =
 lN (yQ.q z_1) ∧ ∀ (i j : Nat), i < lN (yQ.q z_1) → j < 1 → kI ∧ gD (yQ.q z_1) i iZ = gD (yQ.q z_1) i iZ) ∧ 57 = 57 ∧ 1 = 1 ∧ nat_lit 7 = 7 ∧ 0 = 0 ∧ Int.toNat q34 = Int.toNat q34) ∧ LoopState.busy = LoopState.busy ∧ xf Code = xf Code)))) (bF q41 (bF (dK ((cI (yQ.j z_1)) - iO - iO)) (∃ (z' : yQ), (((w9 iB (zW iB x * WH y) (zW iB y * WH y) (lN y) q39 (yQ.j z') (yQ.q z') (yQ.u z') ∧ yQ.j z' ≤ max (List.length
 (vZ x [WH y]) + 1) (lN x + 1) - lN y) ∧ yQ.j z' < yQ.j z_1) ∧ nat_lit 9 = 9 ∧ (nat_lit 8 = 8 ∧ 0 = 0) ∧ kI ∧ (cI (yQ.j z_1)) - iO - iO = (cI (yQ.j z')) - iO) ∧ (((q40 ∧ 3 = 3 ∧ 1 = 1 ∧ lN (yQ.u z') = lN (Z9.w z_3) ∧ ∀ (i j : Nat), i < lN (Z9.w z_3) → j < 1 → kI ∧ gD (Z9.w z_3) i iZ = gD (yQ.u z') i iZ) ∧ 3 = 3 ∧ 1 = 1 ∧ lN (yQ.q z') = lN (yQ.q z_1) ∧ ∀ (i j : Nat), i < lN (yQ.q z_1) → j < 1 → zc (if i = 0 + Int.toNat
 ((cI (yQ.j z_1)) - iO) ∧ 0 ≤ j ∧ j < 1 then aI z_2 else aI (gD (yQ.q z_1) i iZ)) (aI (gD (yQ.q z') i iZ))) ∧ 57 = 57 ∧ 1 = 1 ∧ nat_lit 7 = 7 ∧ 0 = 0 ∧ Int.toNat q34 = Int.toNat q34) ∧ lR))))))))) (bF q42 (bF (za Int q76) ((∀ (x_1 : Int), List.Mem x_1 q78 → iZ ≤ x_1 ∧ x_1 < iB) ∧ (iZ < Int.tdiv iB q16 ∧ Int.tdiv iB q16 ≤ iB)
 ∧ lN q78 ≤ 1000000000 ∧ bF (za Int q79) (j2 ∧ (True ∧ zc (xI q80) q14) ∧ zc (xI q81) q10))))))))))))))))))))) := by
 delta bF dK xI lR cI kI j2 lZ lN gD iZ iO iB aI
 dsimp only
 intro hb
 have e0 : (zp.dflt : Int) = 0 := rfl
 simp only [↓ZK, ↓ZT, row_one]
 simp only [sS, dS, e0]
 have en : ((y.length : Int) - 1).toNat = y.length - 1 := by omega
 have hF : Int.tdiv 1000000000 (y.getD (y.length - 1) 0 + 1) = WH y := rfl
 simp only [GW, implies_true, and_true, true_and, IZ, en, hF, Gr, and_self]
 obtain ⟨f0, f1, vl, vi, vv, vt, vp, y0⟩ := MN hy ty hn
 have x0 := zj (b := 1000000000) (by omega) hx
 obtain ⟨pe, pv, pi⟩ := Pi hx (f := WH y) (by omega)
 have pl : (vZ x [WH y]).length ≤ x.length + 1 := by
  rw [pe]
  refine yg (b := 1000000000) (by omega) ?_
  have h1 := yB (b := 1000000000) (by omega) hx
  have h2 : zW 1000000000 x * WH y ≤ zW 1000000000 x * 1000000000 := Int.mul_le_mul_of_nonneg_left (by omega) x0
  rw [Int.toNat_of_nonneg (Int.mul_nonneg x0 (by omega))]
  show _ < (1000000000 : Int) ^ (x.length + 1)
  rw [Int.pow_succ]
  omega
 have i1 : Zv 1000000000 [WH y] := .one (by omega) (by omega)
 have hcx := PG hx hy tx ty
 obtain ⟨X, hX⟩ : ∃ X : Nat, zW 1000000000 x = X := ⟨(zW 1000000000 x).toNat, by omega⟩
 obtain ⟨Y, hY⟩ : ∃ Y : Nat, zW 1000000000 y = Y := ⟨(zW 1000000000 y).toNat, by omega⟩
 have ex : x = zw 1000000000 X := by
  have h : x = zw 1000000000 (zW 1000000000 x).toNat := YI (b := 1000000000) (by omega) hx tx
  rw [hX, Int.toNat_natCast] at h
  exact h
 refine ⟨hx, hy, fun hc => ?_, fun hc => ⟨fun h1 => ?_, fun h1 => ?_⟩⟩
 ·have hlt : X < Y := by omega
  rw [hX, hY, Int.toNat_natCast, Int.toNat_natCast, Nat.div_eq_of_lt hlt, Nat.mod_eq_of_lt hlt, Zj, ← ex]
  exact ⟨rfl, rfl, zX _⟩
 ·have d4 := hy.get (by omega) 0
  have ev : zW 1000000000 y = y.getD 0 0 := by
   have := xU (1000000000 : Int) (l := y) (z := 0) (by omega)
   rw [List.drop_zero, List.drop_of_length_le (l := y) (i := 0 + 1) (by omega), y9, Int.mul_zero, Int.add_zero] at this
   exact this
  rw [ev] at y0 ⊢
  exact ⟨⟨by omega, by omega⟩, hx, ⟨by omega, by omega⟩, by omega, rfl, zX _, zX _⟩
 have d4 := hy.get (by omega) (y.length - 1)
 have ey : y = zw 1000000000 Y := by
  have h : y = zw 1000000000 (zW 1000000000 y).toNat := YI (b := 1000000000) (by omega) hy ty
  rw [hY, Int.toNat_natCast] at h
  exact h
 have hxy : y.length ≤ x.length := by
  have := ZM (b := 1000000000) (m := Y) (n := X) (by omega) (by omega)
  rw [← ex, ← ey] at this
  exact this
 clear hF ex ey pe
 generalize vZ x [WH y] = P at *
 generalize vZ y [WH y] = W at *
 generalize WH y = f at *
 generalize hA : zW 1000000000 x * f = A at *
 generalize hB : zW 1000000000 y * f = B at *
 simp only [List.length_append, List.length_singleton, List.length_replicate, vl]
 have lz : ∀ z, (P ++ [0] ++ List.replicate z 0).length = P.length + 1 + z := fun z => by simp; omega
 have zs : ∀ z, P ++ [0] ++ List.replicate (z + 1) 0 = (P ++ [0] ++ List.replicate z 0) ++ [(0 : Int)] := fun z => by rw [List.replicate_succ', ← List.append_assoc]
 refine ⟨⟨by omega, by omega⟩, ⟨by omega, by omega⟩, ⟨by omega, by omega⟩, by omega, ⟨by omega, by omega⟩, hx, i1, by omega, by omega, by omega, hy, i1, by omega, by omega, ⟨0, .inl rfl, ⟨rfl, rfl⟩, rfl, fun i j hi hj => ?_⟩, fun z hz => ⟨⟨by omega, by omega⟩, fun hlt => ⟨by omega, z + 1, ⟨.inr (by omega), by omega⟩, ⟨rfl, by omega⟩, by omega, fun i j hi hj => ?_⟩, fun hge => ?_⟩⟩
 ·rw [List.replicate_zero, List.append_nil]
  exact uL P 0 i j hi hj
 ·have := uL (P ++ [0] ++ List.replicate z 0) 0 i j (by rw [lz]; exact hi) hj
  rw [lz, ← zs] at this
  exact this
 obtain ⟨m, hm⟩ : ∃ m, P.length + 1 + z = m + y.length := ⟨P.length + 1 + z - y.length, by omega⟩
 have e1 : max (P.length + 1) (x.length + 1) - y.length = m := by omega
 have e2 : ((m + y.length : Nat) : Int) - (y.length : Int) = (m : Int) := by omega
 simp only [hm, e1, e2, Int.toNat_natCast]
 obtain ⟨s1, s2, s3, s4⟩ := lO (m := m) (n := y.length) (z := z) pi (by omega) hm vp
 refine ⟨⟨by omega, by omega⟩, ⟨by omega, by omega, by omega⟩, ⟨by omega, by omega⟩, ⟨⟨m, List.replicate m 0, P ++ [0] ++ List.replicate z 0⟩, ⟨⟨.start (by omega) s4 s3 s1 (by rw [s2, pv]), Nat.le_refl _⟩, rfl⟩, ⟨s4, fun _ _ _ _ => rfl⟩, by simp, fun i j _ hj => wB _ i j hj⟩, fun d ⟨d1, d2⟩ => ?_⟩
 obtain ⟨j, q, u⟩ := d
 simp only at d1 d2 ⊢
 have ul := d1.ul
 have ql := d1.ql
 simp only [(gE ul.symm).1, (gE ul.symm).2, (gE ql.symm).1, (gE ql.symm).2, Yo]
 refine ⟨fun hj => ?_, fun hj => ?_⟩
 rotate_left
 ·obtain rfl : j = 0 := by omega
  obtain ⟨F, rfl⟩ : ∃ F : Nat, f = F := ⟨f.toNat, by omega⟩
  have hAn : A = ((X * F : Nat) : Int) := by rw [← hA, hX, Int.natCast_mul]
  have hBn : B = ((Y * F : Nat) : Int) := by rw [← hB, hY, Int.natCast_mul]
  have F0 : 0 < F := by omega
  have Y0 : 0 < Y := by omega
  rw [hAn, hBn] at d1
  obtain ⟨r1, r2⟩ := w9.end_ (b := 1000000000) (by omega) (Nat.mul_pos Y0 F0) d1
  rw [Nat.mul_div_mul_right _ _ F0] at r1
  rw [Nat.mul_mod_mul_right] at r2
  have hlen : (zw 1000000000 (X % Y * F)).length ≤ W.length := by
   refine yg (b := 1000000000) (by omega) ?_
   have h1 := yB (b := 1000000000) (by omega) vi
   rw [vv, hBn] at h1
   have h2 : X % Y * F ≤ Y * F := Nat.mul_le_mul_right _ (Nat.le_of_lt (Nat.mod_lt _ Y0))
   have h3 : ((X % Y * F : Nat) : Int) ≤ ((Y * F : Nat) : Int) := Int.ofNat_le.2 h2
   exact Int.lt_of_le_of_lt h3 h1
  have hv : zW 1000000000 (zw 1000000000 (X % Y * F)) = ((X % Y * F : Nat) : Int) := yN (b := 1000000000) (by omega) _
  rw [r1, r2, hX, hY, hv]
  simp only [Int.toNat_natCast, Nat.mul_div_cancel _ F0]
  exact ⟨YO (b := 1000000000) (by omega) _, ⟨by omega, by omega⟩, by omega, rfl, zX _, zX _⟩
 obtain ⟨k, rfl⟩ : ∃ k, j = k + 1 := ⟨j - 1, by omega⟩
 have hk1 : ((k + 1 : Nat) : Int) - 1 = (k : Int) := by omega
 have hki : ∀ i : Nat, ((k : Int) + (i : Int)).toNat = k + i := fun i => by omega
 simp only [hk1, hki, Int.toNat_natCast]
 have n2 : 2 ≤ W.length := by omega
 have d1' : w9 1000000000 A B W.length m (k + 1) q u := by rw [vl]; exact d1
 have vt' : 0 < W.getD (W.length - 1) 0 := by rw [vl]; exact vt
 obtain ⟨g1, g2⟩ := jU vi vv n2 vt' (by omega : k < m) d1'
 rw [vl] at g2
 have ui := d1.ui
 have hi0 : ∀ i, k + 1 + W.length ≤ i → u.getD i 0 = 0 := fun i hi => d1.hi i (by omega)
 refine ⟨⟨by omega, by omega⟩, ui, vi, by omega, by omega, ⟨by omega, by omega⟩, vt, g2, ⟨_, g1, rfl⟩, fun Q ⟨Q0, Q1, Q2⟩ => ⟨⟨by omega, by omega⟩, ⟨⟨0, 0, u⟩, ⟨⟨.start ui Q0, Nat.zero_le _⟩, rfl, rfl⟩, rfl, fun _ _ _ _ => rfl⟩, fun t ⟨t1, t2⟩ => ⟨fun ht => ?_, fun ht => ?_⟩⟩⟩
 ·obtain ⟨⟨b0, b1⟩, hs⟩ := t1.step (by omega) vi Q0 (by omega : k + t.i < u.length)
  have tl := t1.len
  have w1 := vi.get (by omega) t.i
  have w2 := t1.in_.get (by omega) (k + t.i)
  have p0 : 0 ≤ Q * W.getD t.i 0 := Int.mul_nonneg Q0 w1.1
  have p1 : Q * W.getD t.i 0 ≤ Q * 1000000000 := Int.mul_le_mul_of_nonneg_left (by omega) Q0
  have c0 := t1.c0
  have c1 := t1.c1
  have h0 := hs.c0
  have h1 := hs.c1
  have o1 : -9223372036854775808 ≤ t.w.getD (k + t.i) 0 - t.c ∧ t.w.getD (k + t.i) 0 - t.c ≤ 9223372036854775807 := ⟨by omega, by omega⟩
  have o2 : -9223372036854775808 ≤ Q * W.getD t.i 0 ∧ Q * W.getD t.i 0 ≤ 9223372036854775807 := ⟨by omega, by omega⟩
  clear p0 p1 w2
  generalize t.w.getD (k + t.i) 0 - t.c - Q * W.getD t.i 0 = n at *
  refine ⟨⟨by omega, by omega⟩, ⟨by omega, by omega⟩, o1, by omega, o2, ⟨by omega, by omega⟩, fun hn => ?_, fun hn => ?_⟩
  ·have hcb : Xk 1000000000 n = (-n + 1000000000 - 1).tdiv 1000000000 := by unfold Xk; rw [(zq _ _).2 hn]; rfl
   rw [hcb] at hs h0 h1
   generalize (-n + 1000000000 - 1).tdiv 1000000000 = C at *
   exact ⟨⟨by omega, by omega⟩, ⟨by omega, by omega⟩, ⟨by omega, by omega⟩, ⟨by omega, by omega⟩, ⟨by omega, by omega⟩, ⟨by omega, by omega⟩, ⟨by omega, by omega⟩, ⟨by omega, by omega⟩, ⟨by omega, by omega⟩, ⟨t.i + 1, C, _⟩, ⟨⟨⟨hs, by simp only; omega⟩, by simp only; omega⟩, rfl, by simp only; omega⟩, by simp, fun i j' _ => uG _ _ _ (by omega) i j'⟩
  ·have hcb : Xk 1000000000 n = 0 := by unfold Xk; rw [show zn n 0 = false from Bool.eq_false_iff.2 fun e => by have := (zq _ _).1 e; omega]; rfl
   rw [hcb] at hs h0 h1
   exact ⟨⟨by omega, by omega⟩, ⟨by omega, by omega⟩, ⟨by omega, by omega⟩, ⟨by omega, by omega⟩, ⟨t.i + 1, 0, _⟩, ⟨⟨⟨hs, by simp only; omega⟩, by simp only; omega⟩, rfl, by simp only; omega⟩, by simp, fun i j' _ => uG _ _ _ (by omega) i j'⟩
 have ti : t.i = W.length + 1 := by omega
 have tl := t1.len
 have t3 : WO 1000000000 u W k Q (W.length + 1) t.w t.c := ti ▸ t1
 obtain ⟨t4, t5⟩ := t3.fits (by omega) (by omega : k ≤ u.length) hi0
 rw [vv] at t4 t5
 refine ⟨fun hc => ?_, fun hc => ?_⟩
 ·have hlt := t5 hc
  have u0 := zj (b := 1000000000) (by omega) (ui.drop k)
  have Qp : 0 < Q := by
   refine Decidable.byContradiction fun hn => ?_
   have : Q = 0 := by omega
   rw [this, Int.zero_mul] at hlt
   omega
  refine ⟨⟨by omega, by omega⟩, ⟨⟨0, 0, t.w⟩, ⟨⟨.start t1.in_ Q0, Nat.zero_le _⟩, rfl, rfl⟩, rfl, fun _ _ _ _ => rfl⟩, fun r ⟨r1, r2⟩ => ⟨fun hr => ?_, fun hr => ?_⟩⟩
  ·obtain ⟨⟨b0, b1⟩, hs⟩ := r1.step (by omega) vi Q0 (by omega : k + r.i < t.w.length)
   have rl := r1.len
   have w1 := vi.get (by omega) r.i
   have w2 := r1.in_.get (by omega) (k + r.i)
   have p0 : 0 ≤ Q * W.getD r.i 0 := Int.mul_nonneg Q0 w1.1
   have p1 : Q * W.getD r.i 0 ≤ Q * 1000000000 := Int.mul_le_mul_of_nonneg_left (by omega) Q0
   have c0 := r1.c0
   have c1 := r1.c1
   have h0 := hs.c0
   have h1 := hs.c1
   refine ⟨⟨by omega, by omega⟩, ⟨by omega, by omega⟩, by omega, ⟨by omega, by omega⟩, ⟨by omega, by omega⟩, ⟨by omega, by omega⟩, ⟨by omega, by omega⟩, ⟨by omega, by omega⟩, ⟨by omega, by omega⟩, ⟨by omega, by omega⟩, ⟨r.i + 1, _, _⟩, ⟨⟨⟨hs, by simp only; omega⟩, by simp only; omega⟩, rfl, by simp only; omega⟩, by simp, fun i j' _ => uG _ _ _ (by omega) i j'⟩
  ·have ri : r.i = W.length + 1 := by omega
   have r3 : r.w = u := VK.end_ (by omega) ui (by omega : k ≤ u.length) hi0 t3 (ri ▸ r1 : VK 1000000000 t.w W k Q (W.length + 1) r.w r.c)
   rw [r3]
   exact ⟨⟨by omega, by omega⟩, Q - 1, ⟨⟨⟨by omega, by omega, by rw [Int.sub_add_cancel]; exact hlt⟩, by omega⟩, rfl⟩, rfl, fun _ _ _ _ => rfl⟩
 ·have hs := d1'.step (by omega) vi vv (by omega : k < m) Q0 Q2 t3 hc
  rw [vl] at hs
  exact ⟨⟨by omega, by omega⟩, ⟨by omega, by omega⟩, ⟨k, q.set k Q, t.w⟩, ⟨⟨⟨hs, by simp only; omega⟩, by simp only; omega⟩, by simp only⟩, ⟨rfl, fun _ _ _ _ => rfl⟩, by simp, fun i j' _ => uG _ _ _ (by omega) i j'⟩
theorem KC (x : List Int) (y : List Int) (hx : Zv 1000000000 x) (hy : Zv 1000000000 y) (tx : zm x = x) (ty : zm y = y) (hn : y.length ≠ 0) (hlx : x.length ≤ 100000000) (hly : y.length ≤ 100000000) : zS Tryz.prog [] 232 [Zp x, Zp y] (.tup 2 (zT [Zp (zw 1000000000 ((zW 1000000000 x).toNat / (zW 1000000000 y).toNat)), Zp (zw 1000000000 ((zW 1000000000 x).toNat % (zW 1000000000 y).toNat))])) :=
 zV (T := GD) (an := Ig x (zW 1000000000 x * WH y) (zW 1000000000 y * WH y) y.length (max ((vZ x [WH y]).length + 1) (x.length + 1) - y.length)) mixed Ow (Eq.mp (by kernel_rfl) (M9 x y hx hy tx ty hn hlx hly))
theorem Kg : zQ Tryz.prog [] 232 S8 := by
 intro xs ps r h hp
 unfold S8 at h
 split at h
 ·skip
  rename_i x_x x_y
  cases h
  obtain ⟨q0, q1, q2, q3, q4, q5, q6, q7, q8, -⟩ := Zx hp
  exact weaken (ys := [Zp (zv x_x), Zp (zv x_y)]) ⟨zi q0, zi q1, trivial⟩ (KC (zv x_x) (zv x_y) q2 q3 q4 q5 q6 q7 q8)
 ·cases h
end Go.Te
