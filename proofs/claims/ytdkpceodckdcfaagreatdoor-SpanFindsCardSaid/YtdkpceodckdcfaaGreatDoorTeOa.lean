/- rational: numbers with short parts. -/
import Derived.Test.YtdkpceodckdcfaaGreatDoorTeIj
import Derived.Test.YtdkpceodckdcfaaGreatDoorTeFb
set_option linter.unusedSimpArgs false
set_option linter.unusedVariables false
namespace Go.Te
open Go Go.Sx Go.Proofs Go.Ar
set_option maxRecDepth 100000
set_option maxHeartbeats 4000000
def w7 (s : zh) : zh := s.takeWhile Zm
def yV (s : zh) : Bool := Zw (w7 s) && leB ((w7 s).length : Int) 8
def Zn (s : zh) : Int := bif yV s then (zk (w7 s) : Int) else 0
def Zs (s : zh) : zh := bif yV s then s.drop (w7 s).length else []
theorem SS {a b : zh} (h : ∀ c ∈ a, Zm c = true) : w7 (a ++ b) = a ++ w7 b := by
 unfold w7
 exact List.takeWhile_append_of_pos h
theorem US {s : zh} {z : Nat} (h1 : z ≤ s.length) (h2 : ∀ i, i < z → Zm (s.getD i 0) = true) : ∀ c ∈ s.take z, Zm c = true := fun c hc => by
 obtain ⟨i, hi, e⟩ := UK hc
 rw [List.length_take] at hi
 rw [← e, getD_takeS (by omega)]
 exact h2 i (by omega)
theorem oZ {s : zh} {z : Nat} (h1 : z ≤ s.length) (h2 : ∀ i, i < z → Zm (s.getD i 0) = true) (h3 : z = s.length ∨ Zm (s.getD z 0) = false) : w7 s = s.take z := by
 conv => lhs; rw [← List.take_append_drop z s]
 rw [SS (US h1 h2)]
 have : w7 (s.drop z) = [] := by
  by_cases hz : z = s.length
  ·rw [List.drop_of_length_le (by omega)]; rfl
  ·rw [Ty (by omega)]
   unfold w7
   rw [List.takeWhile_cons, h3.resolve_left hz]
   rfl
 rw [this, List.append_nil]
theorem HA {s : zh} {z : Nat} (h1 : z ≤ s.length) (h2 : ∀ i, i < z → Zm (s.getD i 0) = true) : z ≤ (w7 s).length := by
 have : w7 s = s.take z ++ w7 (s.drop z) := by
  conv => lhs; rw [← List.take_append_drop z s]
  exact SS (US h1 h2)
 rw [this, List.length_append, List.length_take]
 omega
theorem mW {s : zh} {z : Nat} (h1 : z ≤ s.length) (h2 : ∀ i, i < z → Zm (s.getD i 0) = true) (h3 : z = s.length ∨ 8 < z ∨ Zm (s.getD z 0) = false) :
  yV s = !((z : Int) == 0 || zn 8 (z : Int) || zn 1 (z : Int) && ((s.getD 0 0).toNat : Int) == 48) ∧ (yV s = true → w7 s = s.take z) := by
 by_cases h8 : 8 < z
 ·have hg := HA h1 h2
  have e : yV s = false := by
   unfold yV
   rw [show leB ((w7 s).length : Int) 8 = false from Bool.eq_false_iff.2 fun e => by have := (zF _ _).1 e; omega, Bool.and_false]
  rw [e, (zq _ _).2 (show (8 : Int) < (z : Int) by omega)]
  exact ⟨by simp, fun h => by cases h⟩
 ·have ht := oZ h1 h2 (h3.imp id fun h => h.resolve_left h8)
  refine ⟨?_, fun _ => ht⟩
  have e48 : (((s.getD 0 0).toNat : Int) == 48) = (s.getD 0 0 == 48) := yb (s.getD 0 0) 48 (by decide)
  unfold yV
  have hl : (s.take z).length = z := by rw [List.length_take]; omega
  rw [ht, hl, e48, (zF _ _).2 (show (z : Int) ≤ 8 by omega), Bool.and_true, show zn 8 (z : Int) = false from Bool.eq_false_iff.2 fun e => by have := (zq _ _).1 e; omega]
  unfold Zw
  rw [hl, List.all_eq_true.2 (US h1 h2), show zn 1 (z : Int) = Nat.blt 1 z from by rw [Bool.eq_iff_iff, zq, zC]; omega]
  by_cases h0 : z = 0
  ·subst h0; rfl
  ·rw [(zC _ _).2 (show 0 < z by omega), beq_eq_false_iff_ne.2 (show (z : Int) ≠ 0 by omega), getD_takeS (show 0 < z by omega)]
   cases Nat.blt 1 z <;> cases s.getD 0 0 == 48 <;> rfl
def Mr (s : zh) : yW :=
 .two .auto (.two .auto (.two (.one (.loop Nat (fun σ z => [(0, σ.tm 0), (5, .i (zk (s.take z) : Int)), (6, .i (z : Int))]) (fun σ z => []) 0 (fun σ z => z ≤ s.length ∧ z ≤ 9 ∧ ∀ i, i < z → Zm (s.getD i 0) = true) (fun σ z => s.length - z) .auto)) .auto))
def RZ : List AV → Option (List zN × AV)
 | [.str s] => some ([.p (s.length ≤ 9223372036854775807)], .tup 3 (zT [.i (Zn s), .str (Zs s), .b (yV s)]))
 | _ => none
theorem mq (s : List UInt8) (hl : s.length ≤ 9223372036854775807) :
 zB [AV.str s] → (∃ (z : Nat), ((z ≤ lN s ∧ z ≤ 9 ∧ ∀ (i : Nat), i < z → Zm (gD s i (0 : UInt8)) = true) ∧ s = s ∧ (kI ∧ iZ = (cI (zk (List.take z s)))) ∧ kI ∧ iZ = (cI z)) ∧ True) ∧ ∀ (z : Nat), let q1 := (zn (cI z) (lZ s)); let q3 := (bif zn (cI z) (lZ s) then leB (cI z) (8 : Int) else false); let q2 := (!zU true q3 || zU true q3); let q4 := (iZ ≤ (cI z) ∧ (cI z) < (lZ s)); let q7 := (cI (UInt8.toNat (gD s (Int.toNat (↑z : Int))
 (0 : UInt8)))); let q6 := (bif bif zn (cI z) (lZ s) then leB (cI z) (8 : Int) else false then leB (48 : Int) q7 else false); let q5 := (!zU true q6 || zU true q6); let q8 := (q7 - (48 : Int)); let q10 := (bif (cI z) == iZ then true else zn (8 : Int) (cI z)); let q9 := (!zU false q10 || zU false q10); let q12 := (zU false q10 && zU true (zn iO (cI z))); let q11 := (!q12 || zU false q10 && zU true (zn iO (cI z))); (z ≤ lN s ∧ z ≤ 9 ∧ ∀ (i : Nat), i < z → Zm (gD s i (0 : UInt8)) = true) →
 bF (!zU true q1 || zU true q1) (bF (!zn (cI z) (lZ s) || zU true q1) (bF q2 (bF q2 (bF (!zU true q3 || DB.db q4) (bF q2 (bF ((!bif zn (cI z) (lZ s) then leB (cI z) (8 : Int) else false) || zU true q3) (bF q5 (bF q5 (bF (!zU true q6 || DB.db q4) (bF q5 (bF ((!bif bif zn (cI z) (lZ s) then leB (cI z) (8 : Int) else false then leB (48 : Int) q7 else false) || zU true q6) (zZ (bif bif bif zn (cI z) (lZ s) then leB (cI z) (8 : Int)
 else false then leB (48 : Int) q7 else false then leB q7 (57 : Int) else false) (bF (dK ((10 : Int) * (cI (zk (List.take z s))))) (bF (DB.db q4) (bF (DB.db (YZ IntKind.u8 q8)) (bF (dK q8) (bF (dK ((10 : Int) * (cI (zk (List.take z s))) + q8)) (bF (dK ((cI z) + iO)) (∃ (z' : Nat), (((z' ≤ lN s ∧ z' ≤ 9 ∧ ∀ (i : Nat), i < z' → Zm (gD s i (0 : UInt8)) = true) ∧ lN s - z' < lN s - z) ∧ s = s ∧ (kI ∧ (10 : Int) * (cI (zk (List.take z s))) +
 q8 = (cI (zk (List.take z' s)))) ∧ kI ∧ (cI z) + iO = (cI z')) ∧ True))))))) (bF (!zU false ((cI z) == iZ) || zU false ((cI z) == iZ)) (bF (!!(cI z) == iZ || zU false ((cI z) == iZ)) (bF q9 (bF q9 (bF q11 (bF (!q12 || DB.db (iZ ≤ iZ ∧ iZ < (lZ s))) (bF q11 (bF q9 (bF (!zU false q10 || (!zn iO (cI z) || zU false q10 && zU true (zn iO (cI z)))) (bF ((!!bif (cI z)
 == iZ then true else zn (8 : Int) (cI z)) || zU false q10) (zZ (bif bif (cI z) == iZ then true else zn (8 : Int) (cI z) then true else bif zn iO (cI z) then (cI (UInt8.toNat (gD s 0 (0 : UInt8)))) == (48 : Int) else false) (3 = lN [AV.junk, AV.junk, AV.junk] ∧ ((True ∧ kI ∧ iZ = Zn s) ∧ bA #[] = Zs s) ∧ false = yV s) (bF (DB.db (iZ ≤ (cI z) ∧ (cI z) ≤ (lZ s))) (3 = lN [AV.junk, AV.junk, AV.junk] ∧ ((True ∧
 kI ∧ (cI (zk (List.take z s))) = Zn s) ∧ List.drop (Int.toNat (cI z)) s = Zs s) ∧ true = yV s))))))))))))))))))))))))) := by
 delta bF dK bA cI kI lZ lN gD iZ iO
 dsimp only
 intro hb
 simp only [sS, dS, Ze, GI]
 have dg2 : ∀ c : UInt8, (leB 48 (c.toNat : Int) && leB (c.toNat : Int) 57) = Zm c := fun c => by rw [Bool.eq_iff_iff, Bool.and_eq_true, zF, zF, Z6]; omega
 simp only [Bool.and_assoc, dg2]
 refine ⟨⟨0, ⟨Nat.zero_le _, Nat.zero_le _, fun i hi => absurd hi (Nat.not_lt_zero _)⟩, rfl, rfl⟩, fun z ⟨z1, z2, z3⟩ => ⟨fun h => ?_, fun h => ?_, zu.2 ⟨fun c => ?_, fun c => ⟨fun h => ?_, ?_⟩⟩⟩⟩
 ·rw [Bool.and_eq_true] at h; have := (zq _ _).1 h.1; omega
 ·rw [Bool.and_eq_true] at h; have := (zq _ _).1 h.1; omega
 ·rw [Bool.and_eq_true, Bool.and_eq_true] at c
  obtain ⟨c1, c2, c3⟩ := c
  have c1 : z < s.length := by have := (zq _ _).1 c1; omega
  have c2 : z ≤ 8 := by have := (zF _ _).1 c2; omega
  have hd := Z6.1 c3
  have hst : (zk (s.take (z + 1)) : Int) = 10 * (zk (s.take z) : Int) + (((s.getD z 0).toNat : Int) - 48) := by
   rw [Xq (by omega), xt]
   unfold vQ
   omega
  have b1 : zk (s.take z) < 10 ^ 9 := by
   have h1 := Xh (l := s.take z) (List.all_eq_true.2 (US z1 z3))
   exact Nat.lt_of_lt_of_le h1 (Nat.pow_le_pow_right (by omega) (by rw [List.length_take]; omega))
  rw [show 10 ^ 9 = 1000000000 from by decide] at b1
  refine ⟨⟨by omega, by omega⟩, ⟨by omega, by omega⟩, ⟨by omega, by omega⟩, ⟨by omega, by omega⟩, ⟨by omega, by omega⟩, ⟨by omega, by omega⟩, z + 1, ⟨⟨by omega, by omega, fun i hi => ?_⟩, by omega⟩, hst.symm, by omega⟩
  by_cases e : i = z
  ·rw [e]; exact c3
  ·exact z3 i (by omega)
 ·rw [Bool.and_eq_true, zq] at h; exact ⟨by omega, by omega⟩
 ·have h3 : z = s.length ∨ 8 < z ∨ Zm (s.getD z 0) = false := by
   by_cases q1 : z = s.length
   ·exact .inl q1
   by_cases q2 : 8 < z
   ·exact .inr (.inl q2)
   refine .inr (.inr ?_)
   have q3 : zn (z : Int) (s.length : Int) = true := (zq _ _).2 (by omega)
   have q4 : leB (z : Int) 8 = true := (zF _ _).2 (by omega)
   rw [q3, q4] at c
   simpa using c
  obtain ⟨k1, k2⟩ := mW z1 z3 h3
  refine xA (by cases ((z : Int) == 0 || zn 8 (z : Int)) <;> cases zn 1 (z : Int) <;> rfl) ?_
  unfold Zn Zs
  refine zu.2 ⟨fun c2 => ?_, fun c2 => ?_⟩
  ·rw [c2] at k1
   rw [k1]
   exact ⟨rfl, ⟨rfl, rfl⟩, rfl⟩
  ·rw [c2] at k1
   have ht := k2 k1
   rw [k1, ht, List.length_take, show min z s.length = z by omega]
   exact ⟨⟨by omega, by omega⟩, rfl, ⟨rfl, rfl⟩, rfl⟩
theorem LB (s : List UInt8) (hl : s.length ≤ 9223372036854775807) : zS Tryz.prog [] 193 [.str s] (.tup 3 (zT [.i (Zn s), .str (Zs s), .b (yV s)])) :=
 zV (T := T0) (an := Mr s) mixed zr (Eq.mp (by kernel_rfl) (mq s hl))
theorem KI : zQ Tryz.prog [] 193 RZ := by
 intro xs ps r h hp
 unfold RZ at h
 split at h
 ·skip
  rename_i s
  cases h
  obtain ⟨q0, -⟩ := Zx hp
  exact weaken (ys := [.str s]) ⟨zX _, trivial⟩ (LB s q0)
 ·cases h
def WQ (x y : Int) : Int := bif leB 0 x && leB 0 y then (Nat.gcd x.toNat y.toNat : Int) else 0
def jx (x y : Int) : yW :=
 .two .auto (.two (.one (.loop YK (fun σ z => [(0, .i z.x), (1, .i z.y)]) (fun σ z => []) 0 (fun σ z => 0 ≤ z.x ∧ 0 ≤ z.y ∧ z.x ≤ 9223372036854775807 ∧ z.y ≤ 9223372036854775807 ∧ Nat.gcd z.x.toNat z.y.toNat = Nat.gcd x.toNat y.toNat) (fun σ z => z.y.toNat) .auto)) .auto)
def ra : List AV → Option (List zN × AV)
 | [.v (.int .i64 x), .v (.int .i64 y)] => some ([.p (0 ≤ x ∧ x ≤ 9223372036854775807), .p (0 ≤ y ∧ y ≤ 9223372036854775807)], .i (WQ x y))
 | _ => none
theorem kT (x : Int) (y : Int) (h1 : 0 ≤ x ∧ x ≤ 9223372036854775807) (h2 : 0 ≤ y ∧ y ≤ 9223372036854775807) :
 zB [aI x, aI y] → (∃ (z : YK), ((iZ ≤ YK.x z ∧ iZ ≤ YK.y z ∧ YK.x z ≤ iX ∧ YK.y z ≤ iX ∧ Nat.gcd (Int.toNat (YK.x z)) (Int.toNat (YK.y z)) = Nat.gcd (Int.toNat x) (Int.toNat y)) ∧ (kI ∧ x = YK.x z) ∧ kI ∧ y = YK.y z) ∧ True) ∧ ∀ (z : YK), iZ ≤ YK.x z ∧ iZ ≤ YK.y z ∧ YK.x z ≤ iX ∧ YK.y z ≤ iX ∧ Nat.gcd (Int.toNat (YK.x z)) (Int.toNat (YK.y z)) = Nat.gcd (Int.toNat x) (Int.toNat y) →
 zZ (YK.y z != iZ) (bF (DB.db (YK.y z ≠ iZ)) (∃ (z' : YK), (((iZ ≤ YK.x z' ∧ iZ ≤ YK.y z' ∧ YK.x z' ≤ iX ∧ YK.y z' ≤ iX ∧ Nat.gcd (Int.toNat (YK.x z')) (Int.toNat (YK.y z')) = Nat.gcd (Int.toNat x) (Int.toNat y)) ∧ Int.toNat (YK.y z') < Int.toNat (YK.y z)) ∧ (kI ∧ YK.y z = YK.x z') ∧ kI ∧ Int.tmod (YK.x z) (YK.y z) = YK.y z') ∧ True)) (kI ∧ YK.x z = WQ x y) := by
 delta bF kI iZ iX aI
 intro hb
 simp only [sS, dS]
 have hO : WQ x y = (Nat.gcd x.toNat y.toNat : Int) := by unfold WQ; rw [(zF _ _).2 h1.1, (zF _ _).2 h2.1]; rfl
 rw [hO]
 refine ⟨⟨⟨x, y⟩, ⟨h1.1, h2.1, h1.2, h2.2, rfl⟩, rfl, rfl⟩, fun z ⟨z1, z2, z3, z4, z5⟩ => ⟨fun hy => ?_, fun hy => ?_⟩⟩
 ·generalize z.x = zx at *
  generalize z.y = zy at *
  obtain ⟨X, rfl⟩ : ∃ X : Nat, zx = X := ⟨zx.toNat, by omega⟩
  obtain ⟨Y, rfl⟩ : ∃ Y : Nat, zy = Y := ⟨zy.toNat, by omega⟩
  have tm : (X : Int).tmod (Y : Int) = ((X % Y : Nat) : Int) := by rw [Int.tmod_eq_emod_of_nonneg (by omega)]; omega
  have hm : X % Y < Y := Nat.mod_lt _ (by omega)
  refine ⟨hy, ⟨Y, ((X % Y : Nat) : Int)⟩, ⟨⟨by simp only; omega, by simp only; omega, by simp only; omega, by simp only; omega, ?_⟩, by simp only; omega⟩, rfl, tm⟩
  simp only [Int.toNat_natCast] at z5 ⊢
  rw [← wy (by omega)]; exact z5
 ·rw [hy] at z5
  simp only [Int.toNat_zero, Nat.gcd_zero_right] at z5
  omega
theorem Ie (x : Int) (y : Int) (h1 : 0 ≤ x ∧ x ≤ 9223372036854775807) (h2 : 0 ≤ y ∧ y ≤ 9223372036854775807) : zS Tryz.prog [] 194 [.i x, .i y] (.i (WQ x y)) :=
 zV (T := T0) (an := jx x y) mixed zr (Eq.mp (by kernel_rfl) (kT x y h1 h2))
theorem LR : zQ Tryz.prog [] 194 ra := by
 intro xs ps r h hp
 unfold ra at h
 split at h
 ·skip
  rename_i x y
  cases h
  obtain ⟨q0, q1, -⟩ := Zx hp
  exact weaken (ys := [.i x, .i y]) ⟨zX _, zX _, trivial⟩ (Ie x y q0 q1)
 ·cases h
end Go.Te

namespace Go.Te
open Go Go.Sx Go.Proofs Go.Ar Go.Lib
set_option maxRecDepth 100000
set_option maxHeartbeats 4000000
noncomputable def GB (G : List (Nat × Obj)) : Tb := (((((wn G).plus 45 wZ).plus 46 vm).plus 48 X2).plus 47 UX).plus 49 Uw
theorem oo {G : List (Nat × Obj)} (hG : zM G) : zY Tryz.prog (GB G) :=
 zY.plus (zY.plus (zY.plus (zY.plus (zY.plus zr (zQ.mono Vd)) (zQ.mono Q8)) (zQ.mono V9)) (zQ.mono PN)) (P2 hG)
def X6 : List AV → Option (List zN × AV)
 | [.str a] => some ([.p (a.length ≤ 100000000)], .i (zo a))
 | _ => none
theorem Qa (G : List (Nat × Obj)) (a : List UInt8) (hl : a.length ≤ 100000000) :
 let q1 := (!zU false !Zw (zO (zR a)) || zU false !Zw (zO (zR a))); let q3 := (zU false !Zw (zO (zR a)) && zU true (zJ (zR a))); let q2 := (!q3 || zU false !Zw (zO (zR a)) && zU true (zJ (zR a))); let q5 := (ByteArray.data (ByteArray.mk #[(48 : UInt8)])); let q4 := (bif !Zw (zG (zR a)) then true else zG (zR a) == Array.toList q5); let q8 := (ByteArray.data (ByteArray.mk #[(49 : UInt8)])); let q7 := (bif !Zw (zO (zR a)) then true else bif zJ (zR a) then bif bif !Zw (zG (zR a)) then true else zG (zR a) == Array.toList
 q5 then true else zG (zR a) == Array.toList q8 else false); let q6 := (!zU false q7 || zU false q7); let q9 := (kI ∧ (11 : Int) = zo a); let q11 := (zn (300 : Int) (lZ (zO (zR a)))); let q10 := (!zU false q11 || zU false q11); let q12 := (kI ∧ iZ = zo a); let q14 := (leB (lZ (zO (zR a))) (9 : Int)); let q13 := (!zU true q14 || zU true q14); zB [AV.str a] → lN a ≤ nM ∧ lN (zO (zR a)) ≤ nM ∧ bF q1 (bF q2 ((q3 = true → lN (zG (zR a)) ≤
 nM) ∧ bF q2 (bF q2 (bF (!(zU false !Zw (zO (zR a)) && zU true (zJ (zR a)) && zU false !Zw (zG (zR a))) || zU false !Zw (zO (zR a)) && zU true (zJ (zR a)) && zU false !Zw (zG (zR a))) (bF q2 (bF (!q3 || (!!!Zw (zG (zR a)) || zU false !Zw (zO (zR a)) && zU true (zJ (zR a)) && zU false !Zw (zG (zR a)))) (bF q2 (zZ (!(zU false !Zw (zO (zR a)) && zU true (zJ (zR a)) && zU false q4) || zU false !Zw (zO (zR a)) && zU true (zJ (zR a)) && zU false q4)
 (bF q2 (bF (!q3 || ((!!bif !Zw (zG (zR a)) then true else zG (zR a) == Array.toList q5) || zU false !Zw (zO (zR a)) && zU true (zJ (zR a)) && zU false q4)) (bF q1 (bF (!zU false !Zw (zO (zR a)) || (!zJ (zR a) || zU false !Zw (zO (zR a)) && zU true (zJ (zR a)))) (bF (!!!Zw (zO (zR a)) || zU false !Zw (zO (zR a))) (bF q6 (bF (!(zU false q7 && zU true (zd a)) || zU false q7 && zU true (zd a)) (bF q6 (bF (!zU false q7 || (!zd a || zU false q7 && zU true (zd a))) (zZ
 ((!!bif !Zw (zO (zR a)) then true else bif zJ (zR a) then bif bif !Zw (zG (zR a)) then true else zG (zR a) == Array.toList q5 then true else zG (zR a) == Array.toList q8 else false) || zU false q7) (zZ (bif bif !Zw (zO (zR a)) then true else bif zJ (zR a) then bif bif !Zw (zG (zR a)) then true else zG (zR a) == Array.toList q5 then true else zG (zR a) == Array.toList q8 else false then true else bif zd a then zO (zR a) == Array.toList q5 else false) q9 (bF q10 (bF q10 (bF (!!zn (300 : Int) (lZ (zO (zR
 a))) || zU false q11) (zZ (bif zn (300 : Int) (lZ (zO (zR a))) then true else zn (300 : Int) (lZ (zG (zR a)))) (kI ∧ (4 : Int) = zo a) (zZ (!zJ (zR a)) q12 (bF q13 (bF q13 (bF (!leB (lZ (zO (zR a))) (9 : Int) || zU true q14) (zZ (bif leB (lZ (zO (zR a))) (9 : Int) then leB (lZ (zG (zR a))) (9 : Int) else false) (Zw (zO (zR a)) = true ∧ lN (zO (zR a)) ≤ 18 ∧ Zw (zG (zR a)) = true ∧ lN (zG
 (zR a)) ≤ 18 ∧ (iZ ≤ (cI (zk (zO (zR a)))) ∧ (cI (zk (zO (zR a)))) ≤ iX) ∧ (iZ ≤ (cI (zk (zG (zR a)))) ∧ (cI (zk (zG (zR a)))) ≤ iX) ∧ zZ ((↑(Nat.gcd (Int.toNat (cI (zk (zO (zR a))))) (Int.toNat (cI (zk (zG (zR a)))))) : Int) != iO) q9 q12) (lN (zO (zR a)) ≤ 100000000 ∧ lN (zG (zR a)) ≤ 100000000 ∧ zZ (!(bif zI (zO (zR a)) (zG (zR a)) != iZ then [] else itoa (cI (Z0 (zO (zR a)) (zG (zR a))))) ==
 Array.toList q8) q9 q12))))))))))) False)))))))))) False)))))))) := by
 delta bF nM cI kI lZ lN iZ iO iX
 dsimp only
 intro hb
 simp only [sS, dS, Ze]
 have lo := X5 a
 have ln := Yy (zR a)
 have ld := U7 (zR a)
 have hF : Xp a = (Zw (zO (zR a)) && !(zd a && zO (zR a) == [48]) && (!zJ (zR a) || Zw (zG (zR a)) && !(zG (zR a) == [48]) && !(zG (zR a) == [49]))) := rfl
 have eB := @Vm a
 have eL := @sQ a
 have eG := @Vn a
 have eI := @Ua a
 generalize hn : zO (zR a) = n at *
 generalize hd : zG (zR a) = d at *
 generalize zJ (zR a) = sl at *
 generalize zd a = m at *
 refine ⟨by omega, by omega, fun _ => by omega, ?_⟩
 refine xA (by cases Zw n <;> cases sl <;> cases Zw d <;> rfl) ?_
 refine xA (by cases Zw n <;> cases sl <;> cases Zw d <;> cases d == [48] <;> rfl) ?_
 refine xA (by cases Zw n <;> cases sl <;> rfl) ?_
 refine xA (by cases Zw n <;> cases sl <;> cases Zw d <;> cases d == [48] <;> cases d == [49] <;> cases m <;> rfl) ?_
 refine zu.2 ⟨fun c => (eB ?_).symm, fun c => ?_⟩
 ·rw [hF]
  revert c
  cases Zw n <;> cases sl <;> cases Zw d <;> cases d == [48] <;> cases d == [49] <;> cases m <;> cases n == [48] <;> decide
 have hT : Xp a = true := by
  rw [hF]
  revert c
  cases Zw n <;> cases sl <;> cases Zw d <;> cases d == [48] <;> cases d == [49] <;> cases m <;> cases n == [48] <;> decide
 refine zu.2 ⟨fun c2 => (eL hT ?_).symm, fun c2 => ?_⟩
 ·rw [Bool.or_eq_true, zq, zq] at c2; omega
 have h3 : n.length ≤ 300 ∧ d.length ≤ 300 := by
  rw [Bool.or_eq_false_iff, Bool.eq_false_iff, Bool.eq_false_iff, Ne, Ne, zq, zq] at c2; omega
 refine zu.2 ⟨fun c3 => (eI hT h3.1 (by simpa using c3)).symm, fun c3 => ?_⟩
 have hs : sl = true := by simpa using c3
 have e2 := eG hT h3 hs
 have hdn : Zw n = true := by
  rw [hT] at hF
  revert hF
  cases Zw n <;> simp
 have hdd : Zw d = true := by
  rw [hT, hs] at hF
  revert hF
  cases Zw d <;> simp
 refine zu.2 ⟨fun c4 => ?_, fun c4 => ⟨by omega, by omega, ?_⟩⟩
 ·rw [Bool.and_eq_true, zF, zF] at c4
  have b1 := yd hdn (k := 9) (by omega)
  have b2 := yd hdd (k := 9) (by omega)
  refine ⟨hdn, by omega, hdd, by omega, ⟨by omega, by omega⟩, ⟨by omega, by omega⟩, fun h => ?_, fun h => ?_⟩
  ·rw [e2, show Nat.beq (Nat.gcd (zk n) (zk d)) 1 = false from Bool.eq_false_iff.2 fun e => h (by have := Nat.eq_of_beq_eq_true e; omega)]; rfl
  ·rw [e2, show Nat.beq (Nat.gcd (zk n) (zk d)) 1 = true by rw [show Nat.gcd (zk n) (zk d) = 1 by omega]; rfl]; rfl
 ·obtain ⟨i1, v1⟩ := wt hdn
  obtain ⟨i2, v2⟩ := wt hdd
  have hE : zI n d = 0 := by
   have l1 := (Xe n).1
   have l2 := (Xe d).1
   have q1 : Zt n = 0 := yS.2 ⟨i1, by omega⟩
   have q2 : Zt d = 0 := yS.2 ⟨i2, by omega⟩
   unfold zI
   rw [q1, q2]; rfl
  have hg : Z0 n d = Nat.gcd (zk n) (zk d) := by unfold Z0; rw [v1, v2]; simp
  rw [hE, bne_self_eq_false, cond_false, hg, e2, Go.Ar.Zi]
  have e1 : (decDigits (Nat.gcd (zk n) (zk d)) == [49]) = Nat.beq (Nat.gcd (zk n) (zk d)) 1 := by
   rw [Bool.eq_iff_iff, beq_iff_eq, Nat.beq_eq]
   constructor
   ·intro h
    have := congrArg zk h
    rw [Z5] at this
    exact this
   ·intro h
    rw [h, zA (by decide)]; rfl
  rw [e1]
  cases Nat.beq (Nat.gcd (zk n) (zk d)) 1
  ·exact rfl
  ·exact rfl
theorem OS {G : List (Nat × Obj)} (hG : zM G) (a : List UInt8) (hl : a.length ≤ 100000000) : zS Tryz.prog G 12 [.str a] (.i (zo a)) :=
 zV (T := (GB G)) (an := .auto) mixed (oo hG) (Eq.mp (by kernel_rfl) (Qa G a hl))
theorem VG {G : List (Nat × Obj)} (hG : zM G) : zQ Tryz.prog G 12 X6 := by
 intro xs ps r h hp
 unfold X6 at h
 split at h
 ·skip
  rename_i a
  cases h
  obtain ⟨q0, -⟩ := Zx hp
  exact weaken (ys := [.str a]) ⟨zX _, trivial⟩ (OS hG a q0)
 ·cases h
end Go.Te

namespace Go.Te
open Go Go.Sx Go.Proofs Go.Ar
set_option maxRecDepth 100000
set_option maxHeartbeats 4000000
def Zk (a : zh) : Bool := zo a == 0 && leB ((zO (zR a)).length : Int) 8 && leB ((zG (zR a)).length : Int) 8
theorem ta (s : zh) : w7 s ++ s.drop (w7 s).length = s := by
 have h : s = s.takeWhile Zm ++ s.dropWhile Zm := (List.takeWhile_append_dropWhile).symm
 have gen : ∀ t u : zh, t ++ u = s → s.drop t.length = u := by
  rintro t u rfl
  exact List.drop_left
 have h2 : s.drop (w7 s).length = s.dropWhile Zm := gen _ _ h.symm
 rw [h2]
 exact h.symm
theorem Lw (s : zh) : ∀ c ∈ w7 s, Zm c = true := fun c hc => List.all_eq_true.1 (List.all_takeWhile (l := s) (p := Zm)) c hc
theorem wu {s : zh} : yV s = true ↔ Zw (w7 s) = true ∧ (w7 s).length ≤ 8 := by
 unfold yV
 rw [Bool.and_eq_true, zF]
 exact ⟨fun h => ⟨h.1, by omega⟩, fun h => ⟨h.1, by omega⟩⟩
theorem Xm {s : zh} (h : yV s = true) : Zn s = (zk (w7 s) : Int) ∧ Zs s = s.drop (w7 s).length ∧ w7 s ++ Zs s = s ∧ 0 ≤ Zn s ∧ Zn s ≤ 99999999 := by
 have e1 : Zn s = (zk (w7 s) : Int) := by unfold Zn; rw [h]; rfl
 have e2 : Zs s = s.drop (w7 s).length := by unfold Zs; rw [h]; rfl
 obtain ⟨h1, h2⟩ := wu.1 h
 have b := yd h1 (k := 8) h2
 rw [show 10 ^ 8 = 100000000 from by decide] at b
 exact ⟨e1, e2, by rw [e2]; exact ta s, by omega, by omega⟩
theorem rx {s : zh} (h : Zw s = true) : w7 s = s := by
 have := SS (a := s) (b := []) (ZX.1 h).2.1
 rw [List.append_nil] at this
 rw [this]
 show s ++ [] = s
 simp
theorem qg {s : zh} (h : Zw s = true) (hl : s.length ≤ 8) : yV s = true ∧ Zn s = (zk s : Int) ∧ Zs s = [] := by
 have ht := rx h
 have ho : yV s = true := wu.2 (by rw [ht]; exact ⟨h, hl⟩)
 obtain ⟨n1, n2, _⟩ := Xm ho
 rw [ht] at n1 n2
 exact ⟨ho, n1, by rw [n2]; simp⟩
theorem tQ {s : zh} (h : yV s = true) (hr : Zs s = []) : Zw s = true ∧ s.length ≤ 8 ∧ Zn s = (zk s : Int) := by
 obtain ⟨n1, n2, n3, _⟩ := Xm h
 rw [hr, List.append_nil] at n3
 obtain ⟨h1, h2⟩ := wu.1 h
 rw [n3] at h1 h2 n1
 exact ⟨h1, h2, n1⟩
theorem X7 {a : zh} : Zk a = true ↔ Xp a = true ∧ (zO (zR a)).length ≤ 8 ∧ (zG (zR a)).length ≤ 8 ∧ (zJ (zR a) = true → Nat.gcd (zk (zO (zR a))) (zk (zG (zR a))) = 1) := by
 unfold Zk
 rw [Bool.and_eq_true, Bool.and_eq_true, zF, zF, beq_iff_eq]
 constructor
 ·rintro ⟨⟨h1, h2⟩, h3⟩
  cases hf : Xp a with
  | false => rw [Vm hf] at h1; cases h1
  | true =>
   refine ⟨rfl, by omega, by omega, fun hs => ?_⟩
   rw [Vn hf ⟨by omega, by omega⟩ hs] at h1
   cases hg : Nat.beq (Nat.gcd (zk (zO (zR a))) (zk (zG (zR a)))) 1 with
   | true => exact Nat.eq_of_beq_eq_true hg
   | false => rw [hg] at h1; cases h1
 ·rintro ⟨h1, h2, h3, h4⟩
  refine ⟨⟨?_, by omega⟩, by omega⟩
  cases hs : zJ (zR a) with
  | false => exact Ua h1 (by omega) hs
  | true =>
   rw [Vn h1 ⟨by omega, by omega⟩ hs, h4 hs]
   rfl
theorem YE {a : zh} : Xp a = true ↔ Zw (zO (zR a)) = true ∧ ¬ (zd a = true ∧ zO (zR a) = [48]) ∧ (zJ (zR a) = true → Zw (zG (zR a)) = true ∧ zG (zR a) ≠ [48] ∧ zG (zR a) ≠ [49]) := by
 unfold Xp
 rw [Bool.and_eq_true, Bool.and_eq_true, Bool.not_eq_true', Bool.and_eq_false_iff, Bool.or_eq_true, Bool.and_eq_true, Bool.and_eq_true, Bool.not_eq_true', Bool.not_eq_true', Bool.not_eq_true', beq_eq_false_iff_ne, beq_eq_false_iff_ne, beq_eq_false_iff_ne]
 constructor
 ·rintro ⟨⟨h1, h2⟩, h3⟩
  refine ⟨h1, fun h => ?_, fun h => ?_⟩
  ·rcases h2 with h2 | h2
   ·rw [h.1] at h2; cases h2
   ·exact h2 h.2
  ·rcases h3 with h3 | h3
   ·rw [h] at h3; cases h3
   ·exact ⟨h3.1.1, h3.1.2, h3.2⟩
 ·rintro ⟨h1, h2, h3⟩
  refine ⟨⟨h1, ?_⟩, ?_⟩
  ·cases hm : zd a with
   | false => exact .inl rfl
   | true => exact .inr fun e => h2 ⟨hm, e⟩
  ·cases hs : zJ (zR a) with
   | false => exact .inl rfl
   | true => have := h3 hs; exact .inr ⟨⟨this.1, this.2.1⟩, this.2.2⟩
theorem nA {s : zh} (h : Zw s = true) : zk s = 0 ↔ s = [48] := ⟨fun e => uW h e, fun e => by rw [e]; decide⟩
theorem Ho {s : zh} (h : Zw s = true) : zk s = 1 ↔ s = [49] := ⟨fun e => by
 have := ZJ h
 rw [e, zA (by omega)] at this
 exact this.symm, fun e => by rw [e]; decide⟩
structure NF (a o : zh) : Prop where
 f0 : yV o = false → Zk a = false
 f1 : yV o = true → 0 ≤ Zn o ∧ Zn o ≤ 99999999
 f2 : yV o = true → Zs o = [] → Zk a = !(zd a && Zn o == 0) ∧ Zn o = (zk (zO (zR a)) : Int) ∧ zP a = 1
 f3 : yV o = true → Zs o ≠ [] → (Zs o).getD 0 0 ≠ 47 → Zk a = false
 f5 : yV o = true → (zd a && Zn o == 0) = true → Zk a = false
 f6 : yV o = true → Zs o ≠ [] → (Zs o).getD 0 0 = 47 → yV ((Zs o).drop 1) = false → Zk a = false
 f7 : yV o = true → Zs o ≠ [] → (Zs o).getD 0 0 = 47 → yV ((Zs o).drop 1) = true →
  (Zk a = true ↔ (zd a && Zn o == 0) = false ∧ Zs ((Zs o).drop 1) = [] ∧ 2 ≤ Zn ((Zs o).drop 1) ∧ WQ (Zn o) (Zn ((Zs o).drop 1)) = 1) ∧ Zn o = (zk (zO (zR a)) : Int) ∧ (Zk a = true → (zP a : Int) = Zn ((Zs o).drop 1))
 fr : zL a = bif zd a then -(zk (zO (zR a)) : Int) else (zk (zO (zR a)) : Int)
theorem ru {a : zh} (h : Zk a = true) : yV (zR a) = true ∧ Zn (zR a) = (zk (zO (zR a)) : Int) ∧ Zs (zR a) = (bif zJ (zR a) then 47 :: zG (zR a) else []) := by
 obtain ⟨h1, h2, h3, h4⟩ := X7.1 h
 obtain ⟨g1, g2, g3⟩ := YE.1 h1
 have ht : w7 (zR a) = zO (zR a) ∧ (zR a).drop (zO (zR a)).length = (bif zJ (zR a) then 47 :: zG (zR a) else []) := by
  cases hs : zJ (zR a) with
  | false =>
   obtain ⟨c1, c2⟩ := wX hs
   rw [c1] at g1 ⊢
   exact ⟨rx g1, by simp⟩
  | true =>
   have he := uJ hs
   have e1 : w7 (zR a) = zO (zR a) := by
    conv => lhs; rw [he]
    rw [SS (ZX.1 g1).2.1]
    show zO (zR a) ++ [] = _
    rw [List.append_nil]
   refine ⟨e1, ?_⟩
   conv => lhs; arg 2; rw [he]
   rw [List.drop_left]
   rfl
 have ho : yV (zR a) = true := wu.2 (by rw [ht.1]; exact ⟨g1, h2⟩)
 obtain ⟨n1, n2, _⟩ := Xm ho
 rw [ht.1] at n1 n2
 exact ⟨ho, n1, by rw [n2, ht.2]⟩
theorem uC {a : zh} : zL a = (bif zd a then -(zk (zO (zR a)) : Int) else (zk (zO (zR a)) : Int)) ∧ zP a = (bif zJ (zR a) then zk (zG (zR a)) else 1) := by
 obtain ⟨_, _, _, _, _, h6, h7⟩ := Y1 a
 exact ⟨h6, h7⟩
theorem nf (a : zh) : NF a (zR a) := by
 obtain ⟨r1, r2⟩ := uC (a := a)
 have neg : yV (zR a) = true → (zd a && Zn (zR a) == 0) = true → Zk a = false := fun h hz => Bool.eq_false_iff.2 fun hb => by
  obtain ⟨_, n1, _⟩ := ru hb
  obtain ⟨h1, _⟩ := X7.1 hb
  obtain ⟨g1, g2, _⟩ := YE.1 h1
  rw [Bool.and_eq_true, beq_iff_eq, n1] at hz
  exact g2 ⟨hz.1, (nA g1).1 (by omega)⟩
 have sm : yV (zR a) = true → Zs (zR a) ≠ [] → (Zs (zR a)).getD 0 0 = 47 → zO (zR a) = w7 (zR a) ∧ zG (zR a) = (Zs (zR a)).drop 1 ∧ zJ (zR a) = true := fun h h1 h2 => by
  obtain ⟨n1, n2, n3, _⟩ := Xm h
  have e : Zs (zR a) = 47 :: (Zs (zR a)).drop 1 := by
   match Zs (zR a), h1, h2 with
   | c :: r, _, h2 => rw [show c = 47 from h2]; rfl
  rw [e] at n3
  have := TZ (a := w7 (zR a)) (b := (Zs (zR a)).drop 1) fun c hc => Ub (Lw _ c hc)
  rw [n3] at this
  exact this
 refine ⟨fun h => Bool.eq_false_iff.2 fun hb => ?_, fun h => (Xm h).2.2.2, fun h h1 => ?_, fun h h1 h2 => Bool.eq_false_iff.2 fun hb => ?_, neg, fun h h1 h2 h3 => Bool.eq_false_iff.2 fun hb => ?_, fun h h1 h2 h3 => ?_, r1⟩
 ·rw [(ru hb).1] at h; cases h
 ·obtain ⟨b1, b2, b3⟩ := tQ h h1
  obtain ⟨c1, c2, c3⟩ := pK (s := zR a) fun i hi e => by
   have := (ZX.1 b1).2.1 _ (xh (s := zR a) (i := i) hi)
   rw [e] at this
   cases this
  rw [c2, r2, c1]
  refine ⟨?_, b3, rfl⟩
  rw [Bool.eq_iff_iff, X7, YE, c1, c2, c3, Bool.not_eq_true', b3]
  constructor
  ·rintro ⟨⟨_, g2, _⟩, _⟩
   rw [Bool.and_eq_false_iff]
   cases hm : zd a with
   | false => exact .inl rfl
   | true => exact .inr (beq_eq_false_iff_ne.2 fun e => g2 ⟨hm, (nA b1).1 (by omega)⟩)
  ·intro g
   refine ⟨⟨b1, fun g2 => ?_, fun e => by cases e⟩, b2, by simp, fun e => by cases e⟩
   rw [g2.1, g2.2] at g
   cases g
 ·have := (ru hb).2.2
  rw [this] at h1 h2
  cases hs : zJ (zR a) with
  | false => rw [hs] at h1; exact h1 rfl
  | true => rw [hs] at h2; exact h2 rfl
 ·obtain ⟨c1, c2, c3⟩ := sm h h1 h2
  obtain ⟨k1, k2, k3, _⟩ := X7.1 hb
  have d1 := (YE.1 k1).2.2 c3
  rw [c2] at d1 k3
  rw [(qg d1.1 k3).1] at h3
  cases h3
 ·obtain ⟨c1, c2, c3⟩ := sm h h1 h2
  obtain ⟨n1, _, _, _⟩ := Xm h
  obtain ⟨o1, o2⟩ := wu.1 h
  rw [c1, r2, c3, c2]
  obtain ⟨m1, _, _, m4, m5⟩ := Xm h3
  have hgO : WQ (Zn (zR a)) (Zn ((Zs (zR a)).drop 1)) = (Nat.gcd (Zn (zR a)).toNat (Zn ((Zs (zR a)).drop 1)).toNat : Int) := by
   unfold WQ
   rw [(zF _ _).2 (Xm h).2.2.2.1, (zF _ _).2 m4]
   rfl
  have key : Zk a = true ↔ (zd a && Zn (zR a) == 0) = false ∧ Zs ((Zs (zR a)).drop 1) = [] ∧ 2 ≤ Zn ((Zs (zR a)).drop 1) ∧ WQ (Zn (zR a)) (Zn ((Zs (zR a)).drop 1)) = 1 := by
   rw [X7, YE, c1, c2, c3, hgO]
   constructor
   ·rintro ⟨⟨_, g2, g3⟩, g4, g5, g6⟩
    obtain ⟨g7, g8, g9⟩ := g3 rfl
    obtain ⟨q1, q2, q3⟩ := qg g7 g5
    have z0 : zk ((Zs (zR a)).drop 1) ≠ 0 := fun e => g8 ((nA g7).1 e)
    have z1 : zk ((Zs (zR a)).drop 1) ≠ 1 := fun e => g9 ((Ho g7).1 e)
    refine ⟨?_, q3, by omega, ?_⟩
    ·rw [Bool.and_eq_false_iff]
     cases hm : zd a with
     | false => exact .inl rfl
     | true => exact .inr (beq_eq_false_iff_ne.2 fun e => g2 ⟨hm, (nA o1).1 (by omega)⟩)
    ·rw [n1, q2, Int.toNat_natCast, Int.toNat_natCast, g6 rfl]; rfl
   ·rintro ⟨g1, g2, g3, g4⟩
    obtain ⟨q1, q2, q3⟩ := tQ h3 g2
    have z0 : zk ((Zs (zR a)).drop 1) ≠ 0 := by omega
    have z1 : zk ((Zs (zR a)).drop 1) ≠ 1 := by omega
    refine ⟨⟨o1, fun e => ?_, fun _ => ⟨q1, fun e => z0 ((nA q1).2 e), fun e => z1 ((Ho q1).2 e)⟩⟩, o2, q2, fun _ => ?_⟩
    ·rw [e.1, n1, (nA o1).2 e.2] at g1
     cases g1
    ·rw [n1, q3, Int.toNat_natCast, Int.toNat_natCast] at g4
     omega
  refine ⟨key, n1, fun hb => ?_⟩
  obtain ⟨_, g2, _⟩ := key.1 hb
  obtain ⟨q1, q2, q3⟩ := tQ h3 g2
  rw [q3]
  rfl
noncomputable def GG : Tb := (T0.plus 193 RZ).plus 194 ra
theorem nq : zY Tryz.prog GG := zY.plus (zY.plus zr KI) LR
def jQ (a : zh) (x y : yW) : yW := .join Int (fun σ _ => [(0, σ.tm 0), (2, σ.tm 2), (4, σ.tm 4), (5, σ.tm 5), (8, σ.tm 8)]) (fun σ z => [(1, .box 135 2 (zT [σ.tm 5, .i z]))]) 0
 (fun σ z => Zk a = true ∧ z = (zP a : Int) ∧ AV.int (σ.tm 5) = (zk (zO (zR a)) : Int)) x y
def jl (a : zh) : yW := .two .auto (.two .auto (.two .auto (.two .auto (.split 7 .auto (.two .auto (jQ a (.two .auto (.two (.two .auto (.two .auto (.split 7 .auto .auto))) .auto)) .auto))))))
def tp : List AV → Option (List zN × AV)
 | [.str a] => some ([.p (a.length ≤ 9223372036854775807)], .tup 2 (zT [.agg 2 (zT [.i (bif Zk a then zL a else 0), .i (bif Zk a then (zP a : Int) else 0)]), .b (Zk a)]))
 | _ => none
theorem jr (a : List UInt8) (hl : a.length ≤ 9223372036854775807) :
 let q1 := (!zU true !a == bA #[] || zU true !a == bA #[]); let q2 := (zn (lZ (List.drop 1 a)) (lZ a)); let q4 := (True ∧ 2 = 2 ∧ (kI ∧ iZ = bif Zk a then zL a else iZ) ∧ kI ∧ iZ = bif Zk a then (cI (zP a)) else iZ); let q3 := (j2 ∧ q4 ∧ false = Zk a); let q5 := (lZ (Zs (List.drop 1 a))); let q7 := (bif !true then true else !Zs (List.drop 1 (Zs
 (List.drop 1 a))) == bA #[]); let q6 := (!zU false q7 || zU false q7); let q10 := (Zn (List.drop 1 (Zs (List.drop 1 a)))); let q9 := (bif bif !true then true else !Zs (List.drop 1 (Zs (List.drop 1 a))) == bA #[] then true else zn q10 (2 : Int)); let q8 := (!zU false q9 || zU false q9); let q11 := (aI (Zn (List.drop 1 a))); let q12 := (kI ∧ Zn (List.drop 1 a) = Zn (List.drop 1 a)); let q13 := (135 = 135 ∧ 2 = 2 ∧ (kI ∧ iZ = (0 :
 Int)) ∧ kI ∧ iZ = iZ); let q14 := (bif bif !false then true else !Zs (List.drop 1 (Zs (List.drop 1 a))) == bA #[] then true else zn q10 (2 : Int)); let q15 := (zn (lZ a) (lZ a)); let q17 := (bif !true then true else !Zs (List.drop 1 (Zs a)) == bA #[]); let q16 := (!zU false q17 || zU false q17); let q19 := (bif bif !true then true else !Zs (List.drop 1 (Zs a)) == bA #[] then true else zn
 (Zn (List.drop 1 (Zs a))) (2 : Int)); let q18 := (!zU false q19 || zU false q19); let q20 := (bif bif !false then true else !Zs (List.drop 1 (Zs a)) == bA #[] then true else zn (Zn (List.drop 1 (Zs a))) (2 : Int)); zB [AV.str a] → bF q1 (bF (!zU true !a == bA #[] || DB.db (iZ ≤ iZ ∧ iZ < (lZ a))) (bF q1 (zZ (!!a == bA #[] || zU true !a == bA #[])
 (zZ (bif !a == bA #[] then (cI (UInt8.toNat (gD a 0 (0 : UInt8)))) == (45 : Int) else false) (bF (DB.db (iZ ≤ iO ∧ iO ≤ (lZ a))) (lN (List.drop 1 a) ≤ nX ∧ zZ (yV (List.drop 1 a)) (bF (!(zU false !true && zU true q2) || zU false !true && zU true q2) (bF (!zU false !true || (!zn (lZ (List.drop 1 a)) (lZ a) || zU false !true && zU true q2)) (zZ (bif !true then true else bif zn (lZ (List.drop
 1 a)) (lZ a) then Zn (List.drop 1 a) == iZ else false) q3 (zZ (!Zs (List.drop 1 a) == bA #[]) (bF (DB.db (iZ ≤ iZ ∧ iZ < q5)) (zZ ((cI (UInt8.toNat (gD (Zs (List.drop 1 a)) 0 (0 : UInt8)))) != (47 : Int)) q3 (bF (DB.db (iZ ≤ iO ∧ iO ≤ q5)) (lN (List.drop 1 (Zs (List.drop 1 a))) ≤ nX ∧ zZ (yV (List.drop 1 (Zs (List.drop 1 a)))) (bF q6 (bF q6 (bF ((!!bif !true then true else !Zs (List.drop 1 (Zs
 (List.drop 1 a))) == bA #[]) || zU false q7) (bF q8 (bF q8 (bF q8 ((zU false q9 = true → iZ ≤ Zn (List.drop 1 a) ∧ Zn (List.drop 1 a) ≤ iX) ∧ (zU false q9 = true → iZ ≤ Zn (List.drop 1 (Zs (List.drop 1 a))) ∧ Zn (List.drop 1 (Zs (List.drop 1 a))) ≤ iX) ∧ bF q8 (bF ((!!bif bif !true then true else !Zs (List.drop 1 (Zs (List.drop 1 a))) == bA #[] then true else zn q10 (2 : Int)) || zU false q9) (zZ (bif
 bif bif !true then true else !Zs (List.drop 1 (Zs (List.drop 1 a))) == bA #[] then true else zn q10 (2 : Int) then true else WQ (Zn (List.drop 1 a)) q10 != iO) q3 (∃ (z : Int), ((Zk a = true ∧ z = (cI (zP a)) ∧ AV.int q11 = (cI (zk (zO (zR a))))) ∧ a = a ∧ (nat_lit 0 = 0 ∧ 0 = 0) ∧ List.drop 1 a = List.drop 1 a ∧ q12 ∧ nat_lit 1 = 1 ∧ 0 = 0) ∧ q13 ∧ (135 : TypeId) = 135 ∧ 2 = 2 ∧ q12 ∧ kI ∧ Zn (List.drop 1 (Zs (List.drop 1 a))) = z)))))))))) ((zU
 false q14 = true → iZ ≤ Zn (List.drop 1 a) ∧ Zn (List.drop 1 a) ≤ iX) ∧ (zU false q14 = true → iZ ≤ Zn (List.drop 1 (Zs (List.drop 1 a))) ∧ Zn (List.drop 1 (Zs (List.drop 1 a))) ≤ iX) ∧ j2 ∧ q4 ∧ false = Zk a))))) (∃ (z : Int), ((Zk a = true ∧ z = (cI (zP a)) ∧ AV.int q11 = (cI (zk (zO (zR a))))) ∧ a = a ∧ (nat_lit 0 = 0 ∧ 0 = 0) ∧ List.drop 1 a = List.drop 1 a ∧ q12 ∧ nat_lit 1 = 1 ∧ 0 = 0) ∧ q13 ∧ (135 : TypeId) = 135 ∧ 2 = 2 ∧ q12 ∧ kI
 ∧ iO = z) ∧ ∀ (z : Int), Zk a = true ∧ z = (cI (zP a)) ∧ AV.int q11 = (cI (zk (zO (zR a)))) → zZ q2 (bF (dK (-Zn (List.drop 1 a))) (j2 ∧ (True ∧ 2 = 2 ∧ (kI ∧ -Zn (List.drop 1 a) = bif Zk a then zL a else iZ) ∧ kI ∧ z = bif Zk a then (cI (zP a)) else iZ) ∧ true = Zk a)) (j2 ∧ (True ∧ 2 = 2 ∧ (kI ∧ Zn (List.drop 1 a) = bif Zk a then zL a else iZ) ∧ kI ∧ z = bif Zk a then
 (cI (zP a)) else iZ) ∧ true = Zk a))))) q3)) (lN a ≤ nX ∧ zZ (yV a) (bF (!(zU false !true && zU true q15) || zU false !true && zU true q15) (bF (!zU false !true || (!zn (lZ a) (lZ a) || zU false !true && zU true q15)) (zZ (bif !true then true else bif zn (lZ a) (lZ a) then Zn a == iZ else false) q3 (zZ (!Zs a == bA #[]) (bF (DB.db (iZ ≤ iZ ∧ iZ <
 (lZ (Zs a)))) (zZ ((cI (UInt8.toNat (gD (Zs a) 0 (0 : UInt8)))) != (47 : Int)) q3 (bF (DB.db (iZ ≤ iO ∧ iO ≤ (lZ (Zs a)))) (lN (List.drop 1 (Zs a)) ≤ nX ∧ zZ (yV (List.drop 1 (Zs a))) (bF q16 (bF q16 (bF ((!!bif !true then true else !Zs (List.drop 1 (Zs a)) == bA #[]) || zU false q17) (bF q18 (bF q18 (bF q18 ((zU false q19 = true → iZ ≤ Zn a ∧ Zn a ≤ iX) ∧ (zU false
 q19 = true → iZ ≤ Zn (List.drop 1 (Zs a)) ∧ Zn (List.drop 1 (Zs a)) ≤ iX) ∧ bF q18 (bF ((!!bif bif !true then true else !Zs (List.drop 1 (Zs a)) == bA #[] then true else zn (Zn (List.drop 1 (Zs a))) (2 : Int)) || zU false q19) (zZ (bif bif bif !true then true else !Zs (List.drop 1 (Zs a)) == bA #[] then true else zn (Zn (List.drop 1 (Zs a))) (2 : Int) then true else WQ (Zn a) (Zn (List.drop 1 (Zs a))) != iO) q3 (∃ (z : Int),
 ((Zk a = true ∧ z = (cI (zP a)) ∧ AV.int (aI (Zn a)) = (cI (zk (zO (zR a))))) ∧ a = a ∧ (nat_lit 0 = 0 ∧ 0 = 0) ∧ a = a ∧ (kI ∧ Zn a = Zn a) ∧ nat_lit 1 = 1 ∧ 0 = 0) ∧ q13 ∧ (135 : TypeId) = 135 ∧ 2 = 2 ∧ (kI ∧ Zn a = Zn a) ∧ kI ∧ Zn (List.drop 1 (Zs a)) = z)))))))))) ((zU false q20 = true → iZ ≤ Zn a ∧ Zn a ≤ iX) ∧ (zU false q20 = true → iZ ≤ Zn (List.drop 1 (Zs a)) ∧ Zn (List.drop 1 (Zs a)) ≤
 iX) ∧ j2 ∧ q4 ∧ false = Zk a))))) (∃ (z : Int), ((Zk a = true ∧ z = (cI (zP a)) ∧ AV.int (aI (Zn a)) = (cI (zk (zO (zR a))))) ∧ a = a ∧ (nat_lit 0 = 0 ∧ 0 = 0) ∧ a = a ∧ (kI ∧ Zn a = Zn a) ∧ nat_lit 1 = 1 ∧ 0 = 0) ∧ q13 ∧ (135 : TypeId) = 135 ∧ 2 = 2 ∧ (kI ∧ Zn a = Zn a) ∧ kI ∧ iO = z) ∧ ∀ (z : Int), Zk a = true ∧ z = (cI (zP a)) ∧ AV.int (aI (Zn a)) = (cI (zk (zO (zR a)))) → zZ q15
 (bF (dK (-Zn a)) (j2 ∧ (True ∧ 2 = 2 ∧ (kI ∧ -Zn a = bif Zk a then zL a else iZ) ∧ kI ∧ z = bif Zk a then (cI (zP a)) else iZ) ∧ true = Zk a)) (j2 ∧ (True ∧ 2 = 2 ∧ (kI ∧ Zn a = bif Zk a then zL a else iZ) ∧ kI ∧ z = bif Zk a then (cI (zP a)) else iZ) ∧ true = Zk a))))) q3)) False))) := by
 delta bF dK bA nX cI kI j2 lZ lN gD iZ iO iX aI
 dsimp only
 intro hb
 simp only [sS, dS, Ze]
 have em : (!(a == []) && ((a.getD 0 0).toNat : Int) == 45) = zd a := by
  rw [show (((a.getD 0 0).toNat : Int) == 45) = (a.getD 0 0 == 45) from yb (a.getD 0 0) 45 (by decide)]
  unfold zd
  match a with
  | [] => rfl
  | c :: r => simp
 have e47 : ∀ c : UInt8, ((c.toNat : Int) = 47) ↔ c = 47 := fun c => by
  have := yb c 47 (by decide)
  rw [Bool.eq_iff_iff, beq_iff_eq, beq_iff_eq] at this
  exact this
 have bad : Zk a = false → 2 = [AV.junk, AV.junk].length ∧ ((0 = bif Zk a then zL a else 0) ∧ 0 = bif Zk a then (zP a : Int) else 0) ∧ false = Zk a := fun h => by rw [h]; exact ⟨rfl, ⟨rfl, rfl⟩, rfl⟩
 have rb : ∀ s : zh, yV s = true → 0 ≤ Zn s ∧ Zn s ≤ 9223372036854775807 := fun s h => by have := (Xm h).2.2.2; omega
 have F := nf a
 rw [em]
 simp only [e47, ne_eq]
 have hpos : (!(a == [])) = true → 0 < a.length := fun h => by
  match a, h with
  | c :: r, _ => simp
 refine ⟨fun h => ⟨Int.le_refl _, by have := hpos h; omega⟩, zu.2 ⟨fun c => ?_, fun c => ?_⟩⟩
 ·have hown : zR a = a.drop 1 := by unfold zR; rw [c]; rfl
  have hl1 := (QK c).2
  have hlt : zn ((a.drop 1).length : Int) (a.length : Int) = zd a := by rw [c, zq, List.length_drop]; omega
  rw [hown] at F
  refine ⟨⟨by omega, by omega⟩, by rw [List.length_drop]; omega, ?_⟩
  generalize ho : a.drop 1 = o at *
  have hlo : o.length ≤ a.length := by rw [← ho, List.length_drop]; omega
  have hgt : (o.length : Int) < (a.length : Int) ↔ zd a = true := by rw [← hlt, zq]
  rw [hlt]
  refine zu.2 ⟨fun k => ?_, fun k => bad (F.f0 k)⟩
  refine xA (by cases zd a <;> rfl) ?_
  have hb1 := rb _ k
  refine zu.2 ⟨fun k2 => bad (F.f5 k (by simpa using k2)), fun k2 => ⟨zu.2 ⟨fun k3 => ?_, fun k3 => ?_⟩, fun z hz => ?_⟩⟩
  ·have k4 : Zs o ≠ [] := by simpa using k3
   have k5 : 0 < (Zs o).length := Nat.pos_of_ne_zero fun e => k4 (List.eq_nil_of_length_eq_zero e)
   have k6 : (Zs o).length ≤ o.length := by
    obtain ⟨_, _, h3, _⟩ := Xm k
    have := congrArg List.length h3
    rw [List.length_append] at this
    omega
   refine ⟨⟨by omega, by omega⟩, fun hne => bad (F.f3 k k4 hne), fun he => ⟨⟨by omega, by omega⟩, by rw [List.length_drop]; omega, zu.2 ⟨fun k7 => ?_, fun k7 => ?_⟩⟩⟩
   ·obtain ⟨i1, i2, i3⟩ := F.f7 k k4 he k7
    refine ⟨fun _ => hb1, fun _ => rb _ k7, zu.2 ⟨fun k8 => bad (Bool.eq_false_iff.2 fun hb => ?_), fun k8 => ?_⟩⟩
    ·obtain ⟨j1, j2, j3, j4⟩ := i1.1 hb
     rw [j2, j4, show zn (Zn ((Zs o).drop 1)) 2 = false from Bool.eq_false_iff.2 fun e => by have := (zq _ _).1 e; omega] at k8
     cases k8
    ·have hb : Zk a = true := i1.2 (by
      rw [Bool.or_eq_false_iff, Bool.or_eq_false_iff] at k8
      obtain ⟨⟨q1, q2⟩, q3⟩ := k8
      refine ⟨by simpa using k2, by simpa using q1, ?_, by simpa using q3⟩
      refine Decidable.byContradiction fun hn => ?_
      rw [(zq _ _).2 (by omega)] at q2
      cases q2)
     exact ⟨_, ⟨hb, (i3 hb).symm, i2⟩, rfl⟩
   ·exact ⟨fun h => by simp at h, fun h => by simp at h, bad (F.f6 k k4 he k7)⟩
  ·have k4 : Zs o = [] := by simpa using k3
   obtain ⟨i1, i2, i3⟩ := F.f2 k k4
   have k2' : (zd a && Zn o == 0) = false := k2
   have hb : Zk a = true := by rw [i1, k2']; rfl
   exact ⟨1, ⟨hb, by rw [i3]; rfl, i2⟩, rfl⟩
  ·obtain ⟨z1, z2, z3⟩ := hz
   have fr := F.fr
   rw [← z3] at fr
   refine ⟨fun hh => ⟨⟨by omega, by omega⟩, rfl, ⟨?_, ?_⟩, z1.symm⟩, fun hh => ⟨rfl, ⟨?_, ?_⟩, z1.symm⟩⟩
   ·rw [z1, fr, hgt.1 hh]; rfl
   ·rw [z1]; exact z2
   ·have : zd a = false := Bool.eq_false_iff.2 fun e => by have := hgt.2 e; omega
    rw [z1, fr, this]; rfl
   ·rw [z1]; exact z2
 ·have hown : zR a = a := by unfold zR; rw [c]; rfl
  have hlt : zn (a.length : Int) (a.length : Int) = zd a := by rw [c, Bool.eq_false_iff, Ne, zq]; omega
  rw [hown] at F
  have hlo : a.length ≤ a.length := Nat.le_refl _
  have hgt : (a.length : Int) < (a.length : Int) ↔ zd a = true := by rw [← hlt, zq]
  refine ⟨by omega, ?_⟩
  rw [hlt]
  refine zu.2 ⟨fun k => ?_, fun k => bad (F.f0 k)⟩
  refine xA (by cases zd a <;> rfl) ?_
  have hb1 := rb _ k
  refine zu.2 ⟨fun k2 => bad (F.f5 k (by simpa using k2)), fun k2 => ⟨zu.2 ⟨fun k3 => ?_, fun k3 => ?_⟩, fun z hz => ?_⟩⟩
  ·have k4 : Zs a ≠ [] := by simpa using k3
   have k5 : 0 < (Zs a).length := Nat.pos_of_ne_zero fun e => k4 (List.eq_nil_of_length_eq_zero e)
   have k6 : (Zs a).length ≤ a.length := by
    obtain ⟨_, _, h3, _⟩ := Xm k
    have := congrArg List.length h3
    rw [List.length_append] at this
    omega
   refine ⟨⟨by omega, by omega⟩, fun hne => bad (F.f3 k k4 hne), fun he => ⟨⟨by omega, by omega⟩, by rw [List.length_drop]; omega, zu.2 ⟨fun k7 => ?_, fun k7 => ?_⟩⟩⟩
   ·obtain ⟨i1, i2, i3⟩ := F.f7 k k4 he k7
    refine ⟨fun _ => hb1, fun _ => rb _ k7, zu.2 ⟨fun k8 => bad (Bool.eq_false_iff.2 fun hb => ?_), fun k8 => ?_⟩⟩
    ·obtain ⟨j1, j2, j3, j4⟩ := i1.1 hb
     rw [j2, j4, show zn (Zn ((Zs a).drop 1)) 2 = false from Bool.eq_false_iff.2 fun e => by have := (zq _ _).1 e; omega] at k8
     cases k8
    ·have hb : Zk a = true := i1.2 (by
      rw [Bool.or_eq_false_iff, Bool.or_eq_false_iff] at k8
      obtain ⟨⟨q1, q2⟩, q3⟩ := k8
      refine ⟨by simpa using k2, by simpa using q1, ?_, by simpa using q3⟩
      refine Decidable.byContradiction fun hn => ?_
      rw [(zq _ _).2 (by omega)] at q2
      cases q2)
     exact ⟨_, ⟨hb, (i3 hb).symm, i2⟩, rfl⟩
   ·exact ⟨fun h => by simp at h, fun h => by simp at h, bad (F.f6 k k4 he k7)⟩
  ·have k4 : Zs a = [] := by simpa using k3
   obtain ⟨i1, i2, i3⟩ := F.f2 k k4
   have k2' : (zd a && Zn a == 0) = false := k2
   have hb : Zk a = true := by rw [i1, k2']; rfl
   exact ⟨1, ⟨hb, by rw [i3]; rfl, i2⟩, rfl⟩
  ·obtain ⟨z1, z2, z3⟩ := hz
   have fr := F.fr
   rw [← z3] at fr
   refine ⟨fun hh => ⟨⟨by omega, by omega⟩, rfl, ⟨?_, ?_⟩, z1.symm⟩, fun hh => ⟨rfl, ⟨?_, ?_⟩, z1.symm⟩⟩
   ·rw [z1, fr, hgt.1 hh]; rfl
   ·rw [z1]; exact z2
   ·have : zd a = false := Bool.eq_false_iff.2 fun e => by have := hgt.2 e; omega
    rw [z1, fr, this]; rfl
   ·rw [z1]; exact z2
theorem iT (a : List UInt8) (hl : a.length ≤ 9223372036854775807) : zS Tryz.prog [] 130 [.str a] (.tup 2 (zT [.agg 2 (zT [.i (bif Zk a then zL a else 0), .i (bif Zk a then (zP a : Int) else 0)]), .b (Zk a)])) :=
 zV (T := GG) (an := jl a) mixed nq (Eq.mp (by kernel_rfl) (jr a hl))
theorem QW : zQ Tryz.prog [] 130 tp := by
 intro xs ps r h hp
 unfold tp at h
 split at h
 ·skip
  rename_i a
  cases h
  obtain ⟨q0, -⟩ := Zx hp
  exact weaken (ys := [.str a]) ⟨zX _, trivial⟩ (iT a q0)
 ·cases h
end Go.Te

namespace Go.Te
open Go Go.Sx Go.Proofs Go.Ar
set_option maxRecDepth 100000
set_option maxHeartbeats 4000000
def W3 (s : zh) : Int := bif Nat.blt 1 (w7 s).length && s.getD 0 0 == 48 then 0 else ((w7 s).length : Int)
theorem PC (c : UInt8) : ∀ s : zh, (0 ≤ Lib.indexByte s c → ∃ z : Nat, Lib.indexByte s c = z ∧ z < s.length ∧ (∀ i, i < z → s.getD i 0 ≠ c) ∧ s.getD z 0 = c) ∧ (Lib.indexByte s c < 0 → ∀ i, i < s.length → s.getD i 0 ≠ c)
 | [] => ⟨fun h => by simp [Lib.indexByte] at h, fun _ i hi => absurd hi (Nat.not_lt_zero _)⟩
 | x :: s => by
  obtain ⟨h1, h2⟩ := PC c s
  unfold Lib.indexByte
  have ge := Lib.indexByte_ge s c
  by_cases hx : x = c
  ·subst hx
   simp only [if_true, beq_self_eq_true, ↓reduceIte]
   exact ⟨fun _ => ⟨0, rfl, by simp, fun i hi => absurd hi (Nat.not_lt_zero _), rfl⟩, fun h => absurd h (by decide)⟩
  ·have hx' : (x == c) = false := beq_eq_false_iff_ne.2 hx
   simp only [hx', hx, if_false, Bool.false_eq_true, ↓reduceIte]
   refine ⟨fun h => ?_, fun h => ?_⟩
   ·split at h
    ·exact absurd h (by decide)
    ·rename_i hn
     have hne : Lib.indexByte s c ≠ -1 := by simpa using hn
     obtain ⟨z, e, h3, h4, h5⟩ := h1 (by omega)
     refine ⟨z + 1, ?_, by simp; omega, fun i hi => ?_, h5⟩
     ·rw [if_neg hn, e]; omega
     ·match i with
      | 0 => exact hx
      | i + 1 => exact h4 i (by omega)
   ·split at h
    ·rename_i hn
     intro i hi
     match i with
     | 0 => exact hx
     | i + 1 =>
      have heq : Lib.indexByte s c = -1 := by simpa using hn
      exact h2 (by omega) i (by simpa using hi)
    ·rename_i hn
     have hne : Lib.indexByte s c ≠ -1 := by simpa using hn
     omega
theorem MF (s : zh) : (W3 s == 0 || zn (W3 s) (s.length : Int)) = !Zw s := by
 have hsp := congrArg List.length (ta s)
 rw [List.length_append, List.length_drop] at hsp
 cases hd : Zw s with
 | true =>
  obtain ⟨d1, d2, d3⟩ := ZX.1 hd
  have ht := rx hd
  have e : W3 s = (s.length : Int) := by
   unfold W3
   rw [ht]
   cases hb : Nat.blt 1 s.length with
   | false => rfl
   | true =>
    rw [beq_eq_false_iff_ne.2 (d3 ((zC _ _).1 hb))]
    rfl
  rw [e, beq_eq_false_iff_ne.2 (by omega), show zn (s.length : Int) (s.length : Int) = false from Bool.eq_false_iff.2 fun e => by have := (zq _ _).1 e; omega]
  rfl
 | false =>
  show _ = true
  unfold W3
  cases hb : Nat.blt 1 (w7 s).length && s.getD 0 0 == 48 with
  | true => rfl
  | false =>
   simp only [cond_false]
   by_cases h0 : (w7 s).length = 0
   ·rw [h0]; rfl
   by_cases hl : (w7 s).length < s.length
   ·rw [(zq _ _).2 (by omega), Bool.or_true]
   refine absurd hd ?_
   have ht : w7 s = s := by
    have := ta s
    rw [List.drop_of_length_le (by omega), List.append_nil] at this
    exact this
   rw [ht] at hb h0
   have : Zw s = true := ZX.2 ⟨by omega, fun c hc => Lw s c (by rw [ht]; exact hc), fun h1 e => by
    rw [(zC _ _).2 h1, e] at hb
    cases hb⟩
   rw [this]
   decide
def Kx (s : zh) : yW :=
 .two .auto (.two .auto (.two (.one (.loop Nat (fun σ z => [(0, σ.tm 0), (3, .i (z : Int))]) (fun σ z => []) 0 (fun σ z => z ≤ s.length ∧ ∀ i, i < z → Zm (s.getD i 0) = true) (fun σ z => s.length - z) .auto)) .auto))
def pr : List AV → Option (List zN × AV)
 | [.str s] => some ([.p (s.length ≤ 9223372036854775807)], .i (W3 s))
 | _ => none
theorem Ld (s : List UInt8) (hl : s.length ≤ 9223372036854775807) :
 zB [AV.str s] → (∃ (z : Nat), ((z ≤ lN s ∧ ∀ (i : Nat), i < z → Zm (gD s i (0 : UInt8)) = true) ∧ s = s ∧ kI ∧ iZ = (cI z)) ∧ True) ∧ ∀ (z : Nat), let q2 := (zn (cI z) (lZ s)); let q1 := (!zU true q2 || zU true q2); let q3 := (iZ ≤ (cI z) ∧ (cI z) < (lZ s)); let q6 := (cI (UInt8.toNat (gD s (Int.toNat (↑z : Int)) (0 : UInt8)))); let q5 := (bif zn (cI z) (lZ s) then leB (48 : Int) q6 else false); let q4 := (!zU true q5 || zU true q5); let q7 := (!zU
 true (zn iO (cI z)) || zU true (zn iO (cI z))); (z ≤ lN s ∧ ∀ (i : Nat), i < z → Zm (gD s i (0 : UInt8)) = true) → bF q1 (bF q1 (bF (!zU true q2 || DB.db q3) (bF q1 (bF (!zn (cI z) (lZ s) || zU true q2) (bF q4 (bF q4 (bF (!zU true q5 || DB.db q3) (bF q4 (bF ((!bif zn (cI z) (lZ s) then leB (48 : Int) q6 else false) || zU true q5) (zZ (bif bif zn (cI z) (lZ s) then leB (48 : Int) q6 else false then leB q6 (57 : Int) else false)
 (bF (dK ((cI z) + iO)) (∃ (z' : Nat), (((z' ≤ lN s ∧ ∀ (i : Nat), i < z' → Zm (gD s i (0 : UInt8)) = true) ∧ lN s - z' < lN s - z) ∧ s = s ∧ kI ∧ (cI z) + iO = (cI z')) ∧ True)) (bF q7 (bF (!zU true (zn iO (cI z)) || DB.db (iZ ≤ iZ ∧ iZ < (lZ s))) (bF q7 (bF (!zn iO (cI z) || zU true (zn iO (cI z))) (zZ (bif zn iO (cI z) then (cI (UInt8.toNat (gD s 0 (0 : UInt8)))) == (48 :
 Int) else false) (kI ∧ iZ = W3 s) (kI ∧ (cI z) = W3 s)))))))))))))))) := by
 delta bF dK cI kI lZ lN gD iZ iO
 dsimp only
 intro hb
 simp only [sS, dS, Ze]
 have dg2 : ∀ c : UInt8, (leB 48 (c.toNat : Int) && leB (c.toNat : Int) 57) = Zm c := fun c => by rw [Bool.eq_iff_iff, Bool.and_eq_true, zF, zF, Z6]; omega
 simp only [Bool.and_assoc, dg2]
 refine ⟨⟨0, ⟨Nat.zero_le _, fun i hi => absurd hi (Nat.not_lt_zero _)⟩, rfl⟩, fun z ⟨z1, z3⟩ => ⟨fun h => ?_, fun h => ?_, zu.2 ⟨fun c => ?_, fun c => ⟨fun h => ?_, ?_⟩⟩⟩⟩
 ·have := (zq _ _).1 h; exact ⟨by omega, by omega⟩
 ·rw [Bool.and_eq_true] at h; have := (zq _ _).1 h.1; exact ⟨by omega, by omega⟩
 ·rw [Bool.and_eq_true] at c
  have c1 := (zq _ _).1 c.1
  refine ⟨⟨by omega, by omega⟩, z + 1, ⟨⟨by omega, fun i hi => ?_⟩, by omega⟩, by omega⟩
  by_cases e : i = z
  ·rw [e]; exact c.2
  ·exact z3 i (by omega)
 ·have := (zq _ _).1 h; exact ⟨by omega, by omega⟩
 ·have h3 : z = s.length ∨ Zm (s.getD z 0) = false := by
   by_cases q1 : z = s.length
   ·exact .inl q1
   ·rw [(zq _ _).2 (show (z : Int) < (s.length : Int) by omega), Bool.true_and] at c
    exact .inr c
  have ht := oZ z1 z3 h3
  have hl : (w7 s).length = z := by rw [ht, List.length_take]; omega
  have e1 : (zn 1 (z : Int) && ((s.getD 0 0).toNat : Int) == 48) = (Nat.blt 1 z && s.getD 0 0 == 48) := by
   rw [show (((s.getD 0 0).toNat : Int) == 48) = (s.getD 0 0 == 48) from yb (s.getD 0 0) 48 (by decide), show zn 1 (z : Int) = Nat.blt 1 z from by rw [Bool.eq_iff_iff, zq, zC]; omega]
  rw [e1]
  unfold W3
  rw [hl]
  refine zu.2 ⟨fun k => ?_, fun k => ?_⟩
  ·rw [k]; rfl
  ·rw [k]; rfl
theorem Ij (s : List UInt8) (hl : s.length ≤ 9223372036854775807) : zS Tryz.prog [] 234 [.str s] (.i (W3 s)) :=
 zV (T := T0) (an := Kx s) mixed zr (Eq.mp (by kernel_rfl) (Ld s hl))
theorem ij : zQ Tryz.prog [] 234 pr := by
 intro xs ps r h hp
 unfold pr at h
 split at h
 ·skip
  rename_i s
  cases h
  obtain ⟨q0, -⟩ := Zx hp
  exact weaken (ys := [.str s]) ⟨zX _, trivial⟩ (Ij s q0)
 ·cases h
noncomputable def gP : Tb := (T0.plus 123 tf).body Tryz.prog [(256, .auto)]
theorem qA : zY Tryz.prog gP := zY.body mixed (zY.plus zr pQ) _
theorem jM (s : zh) (hl : s.length ≤ 9223372036854775807) :
 zB [AV.str s, AV.str [(47 : UInt8)]] → zZ (leB iZ (Lib.indexByte s (47 : UInt8))) (bF (DB.db (iZ ≤ Lib.indexByte s (47 : UInt8) ∧ Lib.indexByte s (47 : UInt8) ≤ (lZ s))) (bF (dK (Lib.indexByte s (47 : UInt8) + (↑1 : Int))) (bF (DB.db (iZ ≤ Lib.indexByte s (47 : UInt8) + (↑1 : Int) ∧ Lib.indexByte s (47 : UInt8) + (↑1 : Int) ≤ (lZ s))) (3 = lN [AV.junk, AV.junk, AV.junk] ∧ ((True ∧ List.take (Int.toNat (Lib.indexByte s (47 : UInt8))) s = zO s) ∧ List.drop (Int.toNat (Lib.indexByte s (47 : UInt8) +
 (↑1 : Int))) s = zG s) ∧ true = zJ s)))) (3 = lN [AV.junk, AV.junk, AV.junk] ∧ ((True ∧ s = zO s) ∧ bA #[] = zG s) ∧ false = zJ s) := by
 delta bF dK bA lZ lN iZ
 intro hb
 simp only [sS, dS, Ze]
 obtain ⟨h1, h2⟩ := PC 47 s
 refine ⟨fun h => ?_, fun h => ?_⟩
 ·obtain ⟨z, e, z1, z2, z3⟩ := h1 h
  obtain ⟨c1, c2, c3⟩ := Nl z1 z2 z3
  rw [e, c1, c2, c3, show ((z : Int)).toNat = z from rfl, show ((z : Int) + 1).toNat = z + 1 by omega]
  exact ⟨⟨by omega, by omega⟩, ⟨by omega, by omega⟩, ⟨by omega, by omega⟩, rfl, ⟨rfl, rfl⟩, rfl⟩
 ·obtain ⟨c1, c2, c3⟩ := pK (h2 h)
  rw [c1, c2, c3]
  exact ⟨rfl, ⟨rfl, rfl⟩, rfl⟩
def Sw : List AV → Option (List zN × AV)
 | [.str s, .str p] => some ([.b (p == [47]), .p (s.length ≤ 9223372036854775807)], .tup 3 (zT [.str (zO s), .str (zG s), .b (zJ s)]))
 | _ => none
theorem Iv : zQ Tryz.prog [] 233 Sw := by
 intro xs ps r h hp
 unfold Sw at h
 split at h
 ·rename_i s p
  cases h
  have q : (p == [47]) = true := hp _ List.mem_cons_self
  have q1 : s.length ≤ 9223372036854775807 := hp _ (List.mem_cons_of_mem _ List.mem_cons_self)
  obtain rfl := eq_of_beq q
  exact zV mixed qA (Eq.mp (by kernel_rfl) (jM s q1) : SK Tryz.prog gP 233 (.auto) [.str s, .str [47]] (.tup 3 (zT [.str (zO s), .str (zG s), .b (zJ s)])))
 ·cases h
theorem N9 (t : zh) : Zy t = (Zw (zR t) && !(zd t && zR t == [48])) := by
 match t with
 | [] => rfl
 | c :: r =>
  by_cases hc : c = 45
  ·subst hc
   rfl
  ·have hm : zd (c :: r) = false := beq_eq_false_iff_ne.2 hc
   obtain ⟨h1, _, _⟩ := Yl (a := c :: r) fun h => hc h.2
   rw [h1, hm, ← Sf hm, Bool.false_and, Bool.not_false, Bool.and_true]
noncomputable def fU : Tb := ((T0.plus 233 Sw).plus 210 (xE fun s => .tup 2 (zT [.str (zR s), .b (zd s)]))).plus 234 pr
theorem ng : zY Tryz.prog fU := zY.plus (zY.plus (zY.plus zr Iv) Q7) ij
def pc : List AV → Option (List zN × AV)
 | [.str a] => some ([.p (a.length ≤ 9223372036854775807)], .tup 2 (zT [.agg 2 (zT [.str (bif ZF a then zO a else []), .str (bif ZF a then (bif zJ a then zG a else [49]) else [])]), .b (ZF a)]))
 | _ => none
theorem kH (a : List UInt8) (hl : a.length ≤ 9223372036854775807) :
 let q1 := (!zU false (W3 (zR (zO a)) == iZ) || zU false (W3 (zR (zO a)) == iZ)); let q3 := (bif W3 (zR (zO a)) == iZ then true else zn (W3 (zR (zO a))) (lZ (zR (zO a)))); let q2 := (!zU false q3 || zU false q3); let q4 := (ByteArray.data (ByteArray.mk #[(48 : UInt8)])); let q5 := (j2 ∧ (True ∧ 2 = 2 ∧ (bA #[] = bif ZF a then zO a else []) ∧ bA #[] = bif ZF a then bif zJ a then zG a else [(49 :
 UInt8)] else []) ∧ false = ZF a); let q6 := (zO a = bif ZF a then zO a else []); let q7 := (ByteArray.data (ByteArray.mk #[(49 : UInt8)])); let q8 := (!zU false (W3 (zG a) == iZ) || zU false (W3 (zG a) == iZ)); let q9 := (bif W3 (zG a) == iZ then true else zn (W3 (zG a)) (lZ (zG a))); let q10 := (bif bif W3 (zG a) == iZ then true else zn (W3 (zG a)) (lZ (zG a)) then true else zG a == Array.toList q4); zB [AV.str a] → lN a ≤ nX ∧ lN (zR (zO a)) ≤
 nX ∧ bF q1 (bF q1 (bF q1 (bF (!!W3 (zR (zO a)) == iZ || zU false (W3 (zR (zO a)) == iZ)) (bF q2 (bF (!(zU false q3 && zU true (zd (zO a))) || zU false q3 && zU true (zd (zO a))) (bF q2 (bF (!zU false q3 || (!zd (zO a) || zU false q3 && zU true (zd (zO a)))) (bF ((!!bif W3 (zR (zO a)) == iZ then true else zn (W3 (zR (zO a))) (lZ (zR (zO a)))) || zU false q3) (zZ (bif bif W3 (zR (zO a)) == iZ then true else zn (W3 (zR (zO a)))
 (lZ (zR (zO a))) then true else bif zd (zO a) then zR (zO a) == Array.toList q4 else false) q5 (zZ (!zJ a) (j2 ∧ (True ∧ 2 = 2 ∧ q6 ∧ Array.toList q7 = bif ZF a then bif zJ a then zG a else [(49 : UInt8)] else []) ∧ true = ZF a) (lN (zG a) ≤ nX ∧ bF q8 (bF q8 (bF q8 (bF (!!W3 (zG a) == iZ || zU false (W3 (zG a) == iZ)) (bF (!zU false q9 || zU false q9) (bF ((!!bif W3 (zG a) == iZ then true else zn (W3 (zG a)) (cI (List.length
 (zG a)))) || zU false q9) (bF (!zU false q10 || zU false q10) (bF ((!!bif bif W3 (zG a) == iZ then true else zn (W3 (zG a)) (lZ (zG a)) then true else zG a == Array.toList q4) || zU false q10) (zZ (bif bif bif W3 (zG a) == iZ then true else zn (W3 (zG a)) (lZ (zG a)) then true else zG a == Array.toList q4 then true else zG a == Array.toList q7) q5 (j2 ∧ (True ∧ 2 = 2 ∧ q6 ∧ zG a = bif ZF a then bif zJ a then zG a else [(49 : UInt8)] else []) ∧ true =
 ZF a)))))))))))))))))))) := by
 delta bF bA nX cI j2 lZ lN iZ
 dsimp only
 intro hb
 simp only [sS, dS, Ze, MF]
 have hF : ZF a = (Zy (zO a) && (!zJ a || Zw (zG a) && !(zG a == [48]) && !(zG a == [49]))) := rfl
 rw [N9] at hF
 have l1 := Yy a
 have l2 := U7 a
 have l3 := X5 (zO a)
 generalize Zw (zR (zO a)) = p1 at *
 generalize (zd (zO a)) = p2 at *
 generalize (zR (zO a) == [48]) = p3 at *
 refine ⟨hl, by omega, ?_⟩
 refine xA (by cases p1 <;> cases p2 <;> rfl) ?_
 refine zu.2 ⟨fun c => ?_, fun c => zu.2 ⟨fun c2 => ?_, fun c2 => ⟨by omega, zu.2 ⟨fun c3 => ?_, fun c3 => ?_⟩⟩⟩⟩
 ·have e : ZF a = false := by
   rw [hF]
   revert c
   cases p1 <;> cases p2 <;> cases p3 <;> simp
  rw [e]
  exact ⟨rfl, ⟨rfl, rfl⟩, rfl⟩
 ·have hs : zJ a = false := by simpa using c2
  have e : ZF a = true := by
   rw [hF, hs]
   revert c
   cases p1 <;> cases p2 <;> cases p3 <;> simp
  rw [e, hs]
  exact ⟨rfl, ⟨rfl, rfl⟩, rfl⟩
 ·have hs : zJ a = true := by simpa using c2
  have e : ZF a = false := by
   rw [hF, hs]
   revert c3
   cases Zw (zG a) <;> cases zG a == [48] <;> cases zG a == [49] <;> simp
  rw [e]
  exact ⟨rfl, ⟨rfl, rfl⟩, rfl⟩
 ·have hs : zJ a = true := by simpa using c2
  have e : ZF a = true := by
   rw [hF, hs]
   revert c c3
   cases Zw (zG a) <;> cases zG a == [48] <;> cases zG a == [49] <;> cases p1 <;> cases p2 <;> cases p3 <;> simp
  rw [e, hs]
  exact ⟨rfl, ⟨rfl, rfl⟩, rfl⟩
theorem IT (a : List UInt8) (hl : a.length ≤ 9223372036854775807) : zS Tryz.prog [] 196 [.str a] (.tup 2 (zT [.agg 2 (zT [.str (bif ZF a then zO a else []), .str (bif ZF a then (bif zJ a then zG a else [49]) else [])]), .b (ZF a)])) :=
 zV (T := fU) (an := .auto) mixed ng (Eq.mp (by kernel_rfl) (kH a hl))
theorem IR : zQ Tryz.prog [] 196 pc := by
 intro xs ps r h hp
 unfold pc at h
 split at h
 ·skip
  rename_i a
  cases h
  obtain ⟨q0, -⟩ := Zx hp
  exact weaken (ys := [.str a]) ⟨zX _, trivial⟩ (IT a q0)
 ·cases h
end Go.Te

namespace Go.Te
open Go Go.Sx Go.Proofs Go.Ar
set_option maxRecDepth 100000
set_option maxHeartbeats 4000000
def Zo (a : zh) : zh := bif zJ a then zG a else [49]
theorem Yc (n : Int) : Zt (Lib.itoa n) = ZZ n := by
 obtain ⟨h1, h2⟩ := Z8 n
 have h3 := wj h1
 rw [h2] at h3
 unfold Zt ZZ
 rw [h1, h3]
 rfl
theorem MY {a : zh} (h : zo a = 0) : Zt (zO a) = 0 ∧ Zt (Zo a) = 0 ∧ zt (zO a) = zL a ∧ zt (Zo a) = (zP a : Int) := by
 obtain ⟨h1, h2, h3, _⟩ := Zu.1 h
 have hi : Zy (zO a) = true := by
  unfold ZF at h1
  rw [Bool.and_eq_true] at h1
  exact h1.1
 refine ⟨yS.2 ⟨hi, h2⟩, ?_, rfl, ?_⟩
 all_goals
  unfold Zo
  cases hs : zJ a with
  | false =>
   first
    | (show Zt [49] = 0; exact yS.2 (by decide))
    | (unfold zP; rw [hs]; show zt [49] = ((1 : Nat) : Int); decide)
  | true =>
   unfold ZF at h1
   rw [hs] at h1
   have hd : Zw (zG a) = true := by
    revert h1
    cases Zw (zG a) <;> simp
   obtain ⟨i1, i2⟩ := wt hd
   first
    | exact yS.2 ⟨i1, Nat.le_trans (Xe _).1 h3⟩
    | (unfold zP; rw [hs]; exact i2)
theorem ID (s : zh) : s.length ≤ (zR s).length + 1 := by
 unfold zR
 cases zd s with
 | true => rw [cond_true, List.length_drop]; omega
 | false => rw [cond_false]; omega
theorem SG (g : Nat) : (Lib.itoa (g : Int) == [49]) = Nat.beq g 1 := by
 rw [Go.Ar.Zi, Bool.eq_iff_iff, beq_iff_eq, Nat.beq_eq]
 constructor
 ·intro h
  have := congrArg zk h
  rw [Z5] at this
  exact this
 ·intro h
  rw [h, zA (by decide)]; rfl
theorem I6 {a b : zh} (ha : zo a = 0) (hb : zo b = 0) : yZ (fun x1 x2 => x1 * x2) (zO a) (Zo b) = ZZ (zL a * (zP b : Int)) ∧ y5 (fun x1 x2 => x1 * x2) (zO a) (Zo b) = yq (zL a * (zP b : Int)) := by
 obtain ⟨a1, a2, a3, a4⟩ := MY ha
 obtain ⟨b1, b2, b3, b4⟩ := MY hb
 have hE : zI (zO a) (Zo b) = 0 := by unfold zI; rw [a1, b2]; rfl
 obtain ⟨e1, e2⟩ := xa (f := fun x1 x2 => x1 * x2) hE
 rw [a3, b4] at e1 e2
 exact ⟨e2, e1⟩
theorem Pl {n m : Int} (hn : ZZ n = 0) (hm : ZZ m = 0) : Xl (yq n) (yq m) = Xt n m ∧ zI (yq n) (yq m) = 0 ∧ (yq n).length ≤ 4294967280 ∧ (yq m).length ≤ 4294967280 := by
 have e : ∀ k, ZZ k = 0 → yq k = Lib.itoa k := fun k h => by unfold yq; rw [h]; rfl
 have l : ∀ k, ZZ k = 0 → (Lib.itoa k).length ≤ 4294967280 := fun k h => by
  rw [Yf]
  have : ¬ 300 < Vk k := fun e => by unfold ZZ at h; rw [(zC _ _).2 e] at h; cases h
  split <;> omega
 rw [e n hn, e m hm]
 have hE : zI (Lib.itoa n) (Lib.itoa m) = 0 := by
  unfold zI
  rw [Yc, hn, Yc, hm]
  rfl
 refine ⟨?_, hE, l n hn, l m hm⟩
 unfold Xl
 rw [hE, (Z8 n).2, (Z8 m).2]
 rfl
theorem XG {a : zh} (h : Zk a = true) : zo a = 0 ∧ (zL a).natAbs ≤ 99999999 ∧ zP a ≤ 99999999 := by
 obtain ⟨h1, h2, h3, h4⟩ := X7.1 h
 obtain ⟨g1, g2, g3⟩ := YE.1 h1
 have hr : zo a = 0 := by
  unfold Zk at h
  rw [Bool.and_eq_true, Bool.and_eq_true, beq_iff_eq] at h
  exact h.1.1
 have b := yd g1 (k := 8) h2
 rw [show 10 ^ 8 = 100000000 from by decide] at b
 refine ⟨hr, by rw [WT]; omega, ?_⟩
 rw [(uC (a := a)).2]
 cases hs : zJ (zR a) with
 | false => show 1 ≤ 99999999; decide
 | true =>
  have b := yd (g3 hs).1 (k := 8) h3
  rw [show 10 ^ 8 = 100000000 from by decide] at b
  simp only [cond_true]
  omega
noncomputable def Gg (G : List (Nat × Obj)) : Tb := ((((wn G).plus 196 pc).plus 130 tp).plus 44 (xE fun s => .str (zR s))).plus 191 Ss
theorem Oo {G : List (Nat × Obj)} (hG : zM G) : zY Tryz.prog (Gg G) := zY.plus (zY.plus (zY.plus (zY.plus zr (zQ.mono IR)) (zQ.mono QW)) (zQ.mono SJ)) (ML hG)
def VU : List AV → Option (List zN × AV)
 | [.str a] => some ([.p (a.length ≤ 9223372036854775807)], .tup 2 (zT [.agg 2 (zT [.str (bif zo a == 0 then zO a else []), .str (bif zo a == 0 then Zo a else [])]), .i (zo a)]))
 | _ => none
theorem LX (G : List (Nat × Obj)) (a : List UInt8) (hl : a.length ≤ 9223372036854775807) :
 let q2 := (True ∧ 2 = 2 ∧ (bA #[] = bif zo a == iZ then zO a else []) ∧ bA #[] = bif zo a == iZ then Zo a else []); let q1 := (j2 ∧ q2 ∧ kI ∧ (11 : Int) = zo a); let q4 := (bif ZF a then bif zJ a then zG a else [(49 : UInt8)] else []); let q3 := (j2 ∧ (True ∧ 2 = 2 ∧ ((bif ZF a then zO a else []) = bif zo a == iZ then zO a else []) ∧ q4 = bif zo a == iZ then Zo a else []) ∧
 kI ∧ iZ = zo a); let q7 := (lZ (zR (bif ZF a then zO a else []))); let q6 := (zn (300 : Int) q7); let q5 := (!zU false q6 || zU false q6); let q8 := (ByteArray.data (ByteArray.mk #[(49 : UInt8)])); let q9 := (zI (bif ZF a then zO a else []) q4 != iZ); zB [AV.str a] → lN a ≤ nX ∧ zZ (!ZF a) q1 (lN a ≤ nX ∧ zZ (Zk a) q3 (bF q5 (bF q5 (bF q5 (bF (!!zn (300 : Int) q7 || zU false q6) (zZ (bif zn (300 : Int) q7 then true else zn (300 : Int)
 (lZ q4)) (j2 ∧ q2 ∧ kI ∧ (4 : Int) = zo a) (zZ (q4 == Array.toList q8) q3 (lN (bif ZF a then zO a else []) ≤ nM ∧ lN q4 ≤ nM ∧ bF (!zU false q9 || zU false q9) (bF (!!zI (bif ZF a then zO a else []) q4 != iZ || zU false q9) (zZ (bif zI (bif ZF a then zO a else []) q4 != iZ then true else !(bif zI (bif ZF a then zO a else []) q4 != iZ then [] else Lib.itoa (cI (Z0 (bif ZF a then zO a else []) q4))) == Array.toList
 q8) q1 q3)))))))))) := by
 delta bF bA nX nM cI kI j2 lZ lN iZ
 dsimp only
 intro hb
 simp only [sS, dS, Ze]
 have hFO := X4 a
 have hden : (bif zJ a then zG a else [49]) = Zo a := rfl
 obtain ⟨o1, o2, o3, o4, o5, o6, o7⟩ := Y1 a
 refine ⟨hl, zu.2 ⟨fun c => ?_, fun c => ?_⟩⟩
 ·have c : ZF a = false := by simpa using c
  rw [c] at hFO
  rw [Vm hFO.symm]
  exact ⟨rfl, ⟨rfl, rfl⟩, rfl⟩
 have c : ZF a = true := by simpa using c
 have hFO' : Xp a = true := hFO.symm.trans c
 simp only [c, cond_true, hden]
 have fin : zo a = 0 → 2 = [AV.junk, AV.junk].length ∧ ((zO a = bif zo a == 0 then zO a else []) ∧ Zo a = bif zo a == 0 then Zo a else []) ∧ 0 = zo a := fun h => by rw [h]; exact ⟨rfl, ⟨rfl, rfl⟩, rfl⟩
 have bad : ∀ e : Int, e ≠ 0 → zo a = e → 2 = [AV.junk, AV.junk].length ∧ (([] = bif zo a == 0 then zO a else []) ∧ [] = bif zo a == 0 then Zo a else []) ∧ e = zo a := fun e h0 h => by
  rw [h, beq_eq_false_iff_ne.2 h0]; exact ⟨rfl, ⟨rfl, rfl⟩, rfl⟩
 have hlen : (zR (zO a)).length = (zO (zR a)).length := by rw [← (rC (zO a)).2, o5]
 have hcd := Yy a
 have hdd := U7 a
 refine ⟨hl, zu.2 ⟨fun k => fin (XG k).1, fun k => zu.2 ⟨fun k2 => bad 4 (by decide) (sQ hFO' ?_), fun k2 => zu.2 ⟨fun k3 => ?_, fun k3 => ?_⟩⟩⟩⟩
 ·rw [Bool.or_eq_true, zq, zq, hlen] at k2
  rcases k2 with k2 | k2
  ·exact .inl (by omega)
  ·refine .inr ?_
   rw [← o2]
   unfold Zo at k2
   cases hs : zJ a with
   | true => rw [hs, cond_true] at k2; omega
   | false => rw [hs, cond_false] at k2; exact absurd k2 (by decide)
 ·have hs : zJ a = false := by
   cases hs : zJ a with
   | false => rfl
   | true =>
    unfold Zo at k3
    rw [hs, cond_true] at k3
    have := (YE.1 hFO').2.2 (by rw [← o3]; exact hs)
    rw [← o2] at this
    exact absurd (eq_of_beq k3) this.2.2
  rw [Bool.or_eq_false_iff, Bool.eq_false_iff, Ne, zq, hlen] at k2
  exact fin (Ua hFO' (by omega) (by rw [← o3]; exact hs))
 ·have hs : zJ a = true := by
   cases hs : zJ a with
   | true => rfl
   | false => unfold Zo at k3; rw [hs] at k3; cases k3
  have hdS : Zo a = zG a := by unfold Zo; rw [hs]; rfl
  rw [hdS] at k2 bad fin ⊢
  rw [Bool.or_eq_false_iff, Bool.eq_false_iff, Bool.eq_false_iff, Ne, Ne, zq, zq, hlen] at k2
  have e2 := Vn hFO' ⟨by omega, by rw [← o2]; omega⟩ (by rw [← o3]; exact hs)
  have g := (YE.1 hFO').2.2 (by rw [← o3]; exact hs)
  rw [← o2] at g e2
  obtain ⟨i1, i2⟩ := wt g.1
  have hi : Zy (zO a) = true := by
   have := c
   unfold ZF at this
   rw [Bool.and_eq_true] at this
   exact this.1
  have hE : zI (zO a) (zG a) = 0 := by
   have l2 := (Xe (zG a)).1
   have q1 : Zt (zO a) = 0 := yS.2 ⟨hi, by rw [o5]; omega⟩
   have q2 : Zt (zG a) = 0 := yS.2 ⟨i1, by omega⟩
   unfold zI
   rw [q1, q2]; rfl
  have hg : Z0 (zO a) (zG a) = Nat.gcd (zk (zO (zR a))) (zk (zG a)) := by
   unfold Z0
   rw [i2, Int.natAbs_natCast, ← WT]
   rfl
  have hge := ID (zO a)
  rw [hE]
  simp only [bne_self_eq_false, cond_false, Bool.false_or, SG, hg]
  refine ⟨by omega, by omega, zu.2 ⟨fun k4 => bad 11 (by decide) ?_, fun k4 => ?_⟩⟩
  ·rw [e2, show Nat.beq (Nat.gcd (zk (zO (zR a))) (zk (zG a))) 1 = false by rw [Bool.not_eq_true'] at k4; exact k4]; rfl
  ·exact fin (by rw [e2, show Nat.beq (Nat.gcd (zk (zO (zR a))) (zk (zG a))) 1 = true by rw [Bool.not_eq_false'] at k4; exact k4]; rfl)
theorem jn {G : List (Nat × Obj)} (hG : zM G) (a : List UInt8) (hl : a.length ≤ 9223372036854775807) : zS Tryz.prog G 132 [.str a] (.tup 2 (zT [.agg 2 (zT [.str (bif zo a == 0 then zO a else []), .str (bif zo a == 0 then Zo a else [])]), .i (zo a)])) :=
 zV (T := Gg G) (an := .auto) mixed (Oo hG) (Eq.mp (by kernel_rfl) (LX G a hl))
theorem rk {G : List (Nat × Obj)} (hG : zM G) : zQ Tryz.prog G 132 VU := by
 intro xs ps r h hp
 unfold VU at h
 split at h
 ·skip
  rename_i a
  cases h
  obtain ⟨q0, -⟩ := Zx hp
  exact weaken (ys := [.str a]) ⟨zX _, trivial⟩ (jn hG a q0)
 ·cases h
def SU : List AV → Option (List zN × AV)
 | [.str a] => some ([.p (a.length ≤ 9223372036854775807)], .i (zo a))
 | _ => none
theorem Kd (G : List (Nat × Obj)) (a : List UInt8) (hl : a.length ≤ 9223372036854775807) :
 zB [AV.str a] → lN a ≤ nX ∧ kI ∧ zo a = zo a := by
 delta nX kI lN
 intro hb
 simp only [sS, dS, Ze]
 exact hl
theorem Jc {G : List (Nat × Obj)} (hG : zM G) (a : List UInt8) (hl : a.length ≤ 9223372036854775807) : zS Tryz.prog G 110 [.str a] (.i (zo a)) :=
 zV (T := (wn G).plus 132 VU) (an := .auto) mixed (zY.plus zr (rk hG)) (Eq.mp (by kernel_rfl) (Kd G a hl))
theorem lE {G : List (Nat × Obj)} (hG : zM G) : zQ Tryz.prog G 110 SU := by
 intro xs ps r h hp
 unfold SU at h
 split at h
 ·skip
  rename_i a
  cases h
  obtain ⟨q0, -⟩ := Zx hp
  exact weaken (ys := [.str a]) ⟨zX _, trivial⟩ (Jc hG a q0)
 ·cases h
def Yw (a b : zh) : Int := bif zo a != 0 then zo a else bif zo b != 0 then zo b else bif ZZ (zL a * (zP b : Int)) != 0 then ZZ (zL a * (zP b : Int)) else ZZ (zL b * (zP a : Int))
def wD (a b : zh) : Int := bif Yw a b == 0 then Xt (zL a * (zP b : Int)) (zL b * (zP a : Int)) else 0
noncomputable def Hp (G : List (Nat × Obj)) : Tb := (((((wn G).plus 132 VU).plus 130 tp).plus 145 tI).plus 134 QB).plus 131 SY
theorem QH {G : List (Nat × Obj)} (hG : zM G) : zY Tryz.prog (Hp G) := zY.plus (zY.plus (zY.plus (zY.plus (zY.plus zr (rk hG)) (zQ.mono QW)) (pD hG)) (IB hG)) (zQ.mono Nb)
noncomputable def fZ (G : List (Nat × Obj)) : Tb := (Hp G).body Tryz.prog [(133, .auto)]
theorem oB {G : List (Nat × Obj)} (hG : zM G) : zY Tryz.prog (fZ G) := zY.body mixed (QH hG) _
def Rz : List AV → Option (List zN × AV)
 | [.str a, .str b] => some ([.p (a.length ≤ 9223372036854775807), .p (b.length ≤ 9223372036854775807)], .tup 2 (zT [.i (wD a b), .i (Yw a b)]))
 | _ => none
theorem L9 (G : List (Nat × Obj)) (a : List UInt8) (b : List UInt8) (hla : a.length ≤ 9223372036854775807) (hlb : b.length ≤ 9223372036854775807) :
 let q1 := ((bif Zk a then zL a else iZ) * bif Zk b then (cI (zP b)) else iZ); let q2 := ((bif Zk b then zL b else iZ) * bif Zk a then (cI (zP a)) else iZ); let q4 := (True ∧ kI ∧ iZ = wD a b); let q5 := (bif zo a == iZ then zO a else []); let q6 := (bif zo b == iZ then Zo b else []); let q7 := (yZ (fun (x1 x2 : Int) => x1 * x2) q5 q6 != iZ); let q8 := (bA #[]); let q9 := (bif zo b == iZ then zO b else []); let q10 := (bif zo a == (0 :
 Int) then Zo a else []); let q11 := (y5 (fun (x1 x2 : Int) => x1 * x2) q5 q6); let q12 := (y5 (fun (x1 x2 : Int) => x1 * x2) q9 q10); let q3 := (lN a ≤ nX ∧ zZ (zo a != iZ) (j2 ∧ q4 ∧ kI ∧ zo a = Yw a b) (lN b ≤ nX ∧ zZ (zo b != iZ) (j2 ∧ q4 ∧ kI ∧ zo b = Yw a b) (lN q5 ≤ nM ∧ lN q6 ≤ nM ∧ zZ q7 (zZ q7 (j2 ∧ q4 ∧ kI ∧ yZ
 (fun (x1 x2 : Int) => x1 * x2) q5 q6 = Yw a b) (0 ≤ nM ∧ 0 ≤ nM ∧ j2 ∧ (True ∧ kI ∧ Xl q8 q8 = wD a b) ∧ kI ∧ zI q8 q8 = Yw a b)) (lN q9 ≤ nM ∧ lN q10 ≤ nM ∧ zZ (yZ (fun (x1 x2 : Int) => x1 * x2) q9 q10 != iZ) (j2 ∧ q4 ∧ kI ∧ yZ (fun (x1 x2 : Int) => x1 * x2) q9 q10 = Yw a b) (lN q11 ≤ nM ∧ lN q12 ≤ nM ∧ j2 ∧ (True ∧ kI ∧ Xl q11
 q12 = wD a b) ∧ kI ∧ zI q11 q12 = Yw a b))))); zB [AV.str a, AV.str b] → lN a ≤ nX ∧ zZ (Zk a) (lN b ≤ nX ∧ zZ (Zk b) (bF (dK q1) (bF (dK q2) (j2 ∧ (True ∧ kI ∧ Xt q1 q2 = wD a b) ∧ kI ∧ iZ = Yw a b))) q3) q3 := by
 delta bF dK bA nX nM cI kI j2 lN iZ
 dsimp only
 intro hb
 simp only [sS, dS, Ze]
 have ncd := Yy a
 have ncb := Yy b
 have dl : ∀ a : zh, zo a = 0 → (Zo a).length ≤ 301 := fun a h => by have := (Zu.1 h).2.2.1; unfold Zo; cases zJ a <;> simp <;> omega
 have eA : zo a ≠ 0 → 0 = wD a b ∧ zo a = Yw a b := fun h => by
  have e : Yw a b = zo a := by unfold Yw; rw [bne_iff_ne.2 h]; rfl
  unfold wD
  rw [e, beq_eq_false_iff_ne.2 h]
  exact ⟨rfl, rfl⟩
 have eB : zo a = 0 → zo b ≠ 0 → 0 = wD a b ∧ zo b = Yw a b := fun h0 h => by
  have e : Yw a b = zo b := by unfold Yw; rw [h0, bne_iff_ne.2 h]; rfl
  unfold wD
  rw [e, beq_eq_false_iff_ne.2 h]
  exact ⟨rfl, rfl⟩
 have eC : zo a = 0 → zo b = 0 → ZZ (zL a * (zP b : Int)) ≠ 0 → 0 = wD a b ∧ ZZ (zL a * (zP b : Int)) = Yw a b := fun h0 h1 h => by
  have e : Yw a b = ZZ (zL a * (zP b : Int)) := by unfold Yw; rw [h0, h1, bne_iff_ne.2 h]; rfl
  unfold wD
  rw [e, beq_eq_false_iff_ne.2 h]
  exact ⟨rfl, rfl⟩
 have eD : zo a = 0 → zo b = 0 → ZZ (zL a * (zP b : Int)) = 0 → Yw a b = ZZ (zL b * (zP a : Int)) := fun h0 h1 h => by
  unfold Yw; rw [h0, h1, h]; rfl
 have big : zo a = 0 → zo b = 0 → _ := fun h0 h1 => And.intro (I6 h0 h1) (I6 h1 h0)
 refine ⟨hla, zu.2 ⟨fun c => ⟨hlb, zu.2 ⟨fun c2 => ?_, fun c2 => ?_⟩⟩, fun c => ?_⟩⟩
 ·obtain ⟨a1, a2, a3⟩ := XG c
  obtain ⟨b1, b2, b3⟩ := XG c2
  rw [c, c2]
  simp only [cond_true]
  have m1 : (zL a * (zP b : Int)).natAbs ≤ 99999999 * 99999999 := by rw [Int.natAbs_mul, Int.natAbs_natCast]; exact Nat.mul_le_mul a2 b3
  have m2 : (zL b * (zP a : Int)).natAbs ≤ 99999999 * 99999999 := by rw [Int.natAbs_mul, Int.natAbs_natCast]; exact Nat.mul_le_mul b2 a3
  obtain ⟨r1, r2⟩ := ZW (n := zL a * (zP b : Int)) (k := 20) (by omega) (by omega) (by omega)
  obtain ⟨r3, r4⟩ := ZW (n := zL b * (zP a : Int)) (k := 20) (by omega) (by omega) (by omega)
  have e := eD a1 b1 r2
  rw [r4] at e
  unfold wD
  rw [e]
  exact ⟨⟨by omega, by omega⟩, ⟨by omega, by omega⟩, rfl, rfl, rfl⟩
 all_goals
  refine ⟨hla, fun h => ⟨rfl, eA h⟩, fun h0 => ⟨hlb, fun h => ⟨rfl, eB h0 h⟩, fun h1 => ?_⟩⟩
  obtain ⟨⟨p1, p2⟩, p3, p4⟩ := big h0 h1
  have dla := dl a h0
  have dlb := dl b h1
  have nla := (Zu.1 h0).2.1
  have nlb := (Zu.1 h1).2.1
  have ll1 := (Xe (zO a)).2
  have ll2 := (Xe (zO b)).2
  rw [h0, h1]
  simp only [beq_self_eq_true, cond_true, p1, p2, p3, p4]
  refine ⟨by omega, by omega, fun h => ⟨fun _ => ⟨rfl, eC h0 h1 h⟩, fun h2 => absurd h2 h⟩, fun h => ⟨by omega, by omega, fun h2 => ?_, fun h2 => ?_⟩⟩
  ·have e := eD h0 h1 h
   unfold wD
   rw [e, beq_eq_false_iff_ne.2 h2]
   exact ⟨rfl, rfl, rfl⟩
  ·have e := eD h0 h1 h
   rw [h2] at e
   obtain ⟨q1, q2, q3, q4⟩ := Pl h h2
   unfold wD
   rw [e, q1, q2]
   exact ⟨q3, q4, rfl, rfl, rfl⟩
theorem JQ {G : List (Nat × Obj)} (hG : zM G) (a : List UInt8) (b : List UInt8) (hla : a.length ≤ 9223372036854775807) (hlb : b.length ≤ 9223372036854775807) : zS Tryz.prog G 90 [.str a, .str b] (.tup 2 (zT [.i (wD a b), .i (Yw a b)])) :=
 zV (T := fZ G) (an := .auto) mixed (oB hG) (Eq.mp (by kernel_rfl) (L9 G a b hla hlb))
theorem N8 {G : List (Nat × Obj)} (hG : zM G) : zQ Tryz.prog G 90 Rz := by
 intro xs ps r h hp
 unfold Rz at h
 split at h
 ·skip
  rename_i a b
  cases h
  obtain ⟨q0, q1, -⟩ := Zx hp
  exact weaken (ys := [.str a, .str b]) ⟨zX _, zX _, trivial⟩ (JQ hG a b q0 q1)
 ·cases h
end Go.Te
