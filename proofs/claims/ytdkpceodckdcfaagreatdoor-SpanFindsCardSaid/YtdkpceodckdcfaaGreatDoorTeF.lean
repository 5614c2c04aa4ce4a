/- kingpostref01: contracts of the small functions. -/
import Derived.Test.YtdkpceodckdcfaaGreatDoorTeA
import Derived.Test.YtdkpceodckdcfaaGreatDoorArI
set_option linter.unusedSimpArgs false
set_option linter.unusedVariables false
namespace Go.Te
open Go Go.Sx Go.Proofs Go.Ar
set_option maxRecDepth 100000
set_option maxHeartbeats 4000000
def Qk (a : zh) : yW :=
 .two .auto (.two .auto (.two .auto (.two .auto (.two (.two .auto (.one (.loop Nat (fun σ z => [(0, σ.tm 0), (3, σ.tm 3), (4, .i z)]) (fun σ z => []) 0 (fun σ z => (AV.int (σ.tm 3)).toNat ≤ z ∧ z ≤ a.length ∧ ∀ i, (AV.int (σ.tm 3)).toNat ≤ i → i < z → Zm (a.getD i 0) = true) (fun σ z => a.length - z) .auto))) .auto))))
def WG : List AV → Option (List zN × AV)
 | [.str a] => some ([.p (a.length ≤ 4294967280)], .i (Zt a))
 | _ => none
theorem QE (a : List UInt8) (hl : a.length ≤ 4294967280) :
 let q2 := (zn iZ (lZ a)); let q1 := (!zU true q2 || zU true q2); let q3 := (iZ ≤ iZ ∧ iZ < (lZ a)); let q4 := (cI (UInt8.toNat (gD a 0 (0 : UInt8)))); let q5 := (!zU false (iO == (lZ a)) || zU false (iO == (lZ a))); let q8 := (cI (UInt8.toNat (gD a 1 (0 : UInt8)))); let q7 := (q8 == (48 : Int)); let q6 := (!(zU false (iO == (lZ a)) && zU true q7) || zU false (iO == (lZ a)) && zU true q7); let q9
 := (kI ∧ (11 : Int) = Zt a); let q10 := (AV.int (aI iO)); let q11 := (kI ∧ iO = iO); let q16 := (kI ∧ (4 : Int) = Zt a); let q17 := (kI ∧ iZ = Zt a); let q18 := (!zU false (iZ == (lZ a)) || zU false (iZ == (lZ a))); let q20 := (q4 == (48 : Int)); let q19 := (!(zU false (iZ == (lZ a)) && zU true q20) || zU false (iZ == (lZ a)) && zU true q20); let q21 := (AV.int (AV.v
 (Value.int .i64 iZ))); let q22 := (kI ∧ iZ = iZ); zB [AV.str a] → bF q1 (bF (!zU true q2 || DB.db q3) (bF q1 (bF (!zn iZ (lZ a) || zU true q2) (zZ (bif zn iZ (lZ a) then q4 == (45 : Int) else false) (bF q5 (bF q5 (bF (!zU false (iO == (lZ a)) || DB.db (iZ ≤ iO ∧ iO < (lZ a))) (bF q5 (bF q5 (bF q6 (bF q6 (bF q5 (bF (!zU false (iO == (lZ a)) || (!q8 == (48
 : Int) || zU false (iO == (lZ a)) && zU true q7)) (bF (!!iO == (lZ a) || zU false (iO == (lZ a))) (zZ (bif iO == (lZ a) then true else bif q8 == (48 : Int) then zn iO (lZ a) else false) q9 ((∃ (z : Nat), ((Int.toNat q10 ≤ z ∧ z ≤ lN a ∧ ∀ (i : Nat), Int.toNat q10 ≤ i → i < z → Zm (gD a i (0 : UInt8)) = true) ∧ a = a ∧ q11 ∧ kI ∧ iO = (cI z)) ∧ True) ∧ ∀ (z : Nat), let q12 := (iZ ≤ (cI z) ∧ (cI z) <
 (lZ a)); let q15 := (cI (UInt8.toNat (gD a (Int.toNat (↑z : Int)) (0 : UInt8)))); let q14 := (zn q15 (48 : Int)); let q13 := (!zU false q14 || zU false q14); (Int.toNat q10 ≤ z ∧ z ≤ lN a ∧ ∀ (i : Nat), Int.toNat q10 ≤ i → i < z → Zm (gD a i (0 : UInt8)) = true) → zZ (zn (cI z) (lZ a)) (bF (DB.db q12) (bF q13 (bF q13 (bF (!zU false q14 || DB.db q12) (bF q13 (bF (!!zn q15 (48 : Int) || zU false q14) (zZ (bif zn q15 (48 : Int) then true else zn (57 : Int) q15) q9 (bF (DB.db (YZ
 .i64 ((cI z) + iO))) (∃ (z' : Nat), (((Int.toNat q10 ≤ z' ∧ z' ≤ lN a ∧ ∀ (i : Nat), Int.toNat q10 ≤ i → i < z' → Zm (gD a i (0 : UInt8)) = true) ∧ lN a - z' < lN a - z) ∧ a = a ∧ q11 ∧ kI ∧ (cI z) + iO = (cI z')) ∧ True))))))))) (bF (dK ((lZ a) - iO)) (zZ (zn (300 : Int) ((lZ a) - iO)) q16 q17)))))))))))))) (bF q18 (bF q18 (zZ
 (!zU false (iZ == (lZ a)) || DB.db q3) (bF q18 (bF q18 (bF q19 (bF q19 (bF q18 (bF (!zU false (iZ == (lZ a)) || (!q4 == (48 : Int) || zU false (iZ == (lZ a)) && zU true q20)) (bF (!!iZ == (lZ a) || zU false (iZ == (lZ a))) (zZ (bif iZ == (lZ a) then true else bif q4 == (48 : Int) then zn iO (lZ a) else false) q9 ((∃ (z : Nat), ((Int.toNat q21 ≤ z ∧ z ≤ lN a ∧ ∀ (i : Nat),
 Int.toNat q21 ≤ i → i < z → Zm (gD a i (0 : UInt8)) = true) ∧ a = a ∧ q22 ∧ kI ∧ iZ = (cI z)) ∧ True) ∧ ∀ (z : Nat), let q23 := (iZ ≤ (cI z) ∧ (cI z) < (lZ a)); let q26 := (cI (UInt8.toNat (gD a (Int.toNat (↑z : Int)) (0 : UInt8)))); let q25 := (zn q26 (48 : Int)); let q24 := (!zU false q25 || zU false q25); (Int.toNat q21 ≤ z ∧ z ≤ lN a ∧ ∀ (i : Nat), Int.toNat q21 ≤ i → i < z → Zm (gD a i (0 : UInt8)) = true) → zZ (zn (cI z) (lZ a)) (bF (DB.db q23) (zZ q24
 (bF q24 (bF (!zU false q25 || DB.db q23) (bF q24 (bF (!!zn q26 (48 : Int) || zU false q25) (zZ (bif zn q26 (48 : Int) then true else zn (57 : Int) q26) q9 (bF (dK ((cI z) + iO)) (∃ (z' : Nat), (((Int.toNat q21 ≤ z' ∧ z' ≤ lN a ∧ ∀ (i : Nat), Int.toNat q21 ≤ i → i < z' → Zm (gD a i (0 : UInt8)) = true) ∧ lN a - z' < lN a - z) ∧ a = a ∧ q22 ∧ kI ∧ (cI z) + iO = (cI z')) ∧ True))))))) False)) (bF (dK ((↑(lN a) :
 Int) - iZ)) (zZ (zn (300 : Int) ((lZ a) - iZ)) q16 q17))))))))))) False))))))) := by
 delta bF dK cI kI lZ lN gD iZ iO aI
 dsimp only
 intro hb
 simp only [sS, dS, Ze, GI]
 have loop : ∀ (k : Nat), (Zy a = true ↔ k < a.length ∧ (∀ i, k ≤ i → i < a.length → Zm (a.getD i 0) = true) ∧ ¬ (a.getD k 0 = 48 ∧ 1 < a.length)) → Xd a = a.length - k → k ≤ a.length →
   ((!((k : Int) == (a.length : Int))) = true → 0 ≤ (k : Int) ∧ (k : Int) < (a.length : Int)) ∧
    zZ (!!((k : Int) == (a.length : Int)) || (!((a.getD k 0).toNat : Int) == 48 || !((k : Int) == (a.length : Int)) && ((a.getD k 0).toNat : Int) == 48))
     (zZ ((k : Int) == (a.length : Int) || ((a.getD k 0).toNat : Int) == 48 && zn 1 (a.length : Int)) (11 = Zt a)
      ((∃ z : Nat, (k ≤ z ∧ z ≤ a.length ∧ ∀ (i : Nat), k ≤ i → i < z → Zm (a.getD i 0) = true) ∧ (k : Int) = z) ∧
       ∀ (z : Nat), (k ≤ z ∧ z ≤ a.length ∧ ∀ (i : Nat), k ≤ i → i < z → Zm (a.getD i 0) = true) →
         ((z : Int) < (a.length : Int) → (0 ≤ (z : Int) ∧ (z : Int) < (a.length : Int)) ∧ ((!zn ((a.getD z 0).toNat : Int) 48) = true → 0 ≤ (z : Int) ∧ (z : Int) < (a.length : Int)) ∧
           zZ (!Zm (a.getD z 0)) (11 = Zt a) (YZ .i64 ((z : Int) + 1) ∧ ∃ z' : Nat, ((k ≤ z' ∧ z' ≤ a.length ∧ ∀ (i : Nat), k ≤ i → i < z' → Zm (a.getD i 0) = true) ∧ a.length - z' < a.length - z) ∧ (z : Int) + 1 = z')) ∧
          ((a.length : Int) ≤ (z : Int) → YZ .i64 ((a.length : Int) - (k : Int)) ∧ (300 < (a.length : Int) - (k : Int) → 4 = Zt a) ∧ ((a.length : Int) - (k : Int) ≤ 300 → 0 = Zt a)))) False := by
  intro k hI hD hk
  by_cases hl : k < a.length
  ·rw [show ((k : Int) == (a.length : Int)) = false from beq_eq_false_iff_ne.2 (by omega)]
   refine ⟨fun _ => ⟨by omega, by omega⟩, ?_⟩
   simp only [Bool.not_false, Bool.not_true, Bool.false_or, Bool.true_and]
   rw [show (!((a.getD k 0).toNat : Int) == 48 || ((a.getD k 0).toNat : Int) == 48) = true by cases ((a.getD k 0).toNat : Int) == 48 <;> rfl, Yo]
   have e48 : (((a.getD k 0).toNat : Int) == 48) = (a.getD k 0 == 48) := yb (a.getD k 0) 48 (by decide)
   rw [e48]
   refine zu.2 ⟨fun c => ?_, fun c => ⟨⟨k, ⟨Nat.le_refl _, by omega, fun i h1 h2 => by omega⟩, rfl⟩, fun z ⟨z1, z2, z3⟩ => ⟨fun hz => ⟨⟨by omega, hz⟩, fun _ => ⟨by omega, hz⟩, zu.2 ⟨fun c2 => ?_, fun c2 => ⟨⟨by omega, by omega⟩, z + 1, ⟨⟨by omega, by omega, fun i h1 h2 => ?_⟩, by omega⟩, by omega⟩⟩⟩, fun hz => ?_⟩⟩⟩
   ·rw [Bool.and_eq_true, beq_iff_eq, zq] at c
    exact (Vr fun e => (hI.1 e).2.2 ⟨c.1, by omega⟩).symm
   ·rw [Bool.not_eq_true'] at c2
    refine (Vr fun e => ?_).symm
    simp_all
   ·grind
   ·have hall : Zy a = true := hI.2 ⟨hl, fun i h1 h2 => z3 i h1 (by omega), fun h => by
     rw [Bool.and_eq_false_iff] at c
     rcases c with c | c
     ·simp_all
     ·rw [Bool.eq_false_iff, Ne, zq] at c; omega⟩
    rw [P3 hall, hD]
    refine ⟨⟨by omega, by omega⟩, fun h => ?_, fun h => ?_⟩
    ·rw [(zC _ _).2 (by omega)]; rfl
    ·rw [show Nat.blt 300 (a.length - k) = false from Bool.eq_false_iff.2 fun e => by have := (zC _ _).1 e; omega]; rfl
  ·have hE : 11 = Zt a := (Vr fun e => hl (hI.1 e).1).symm
   rw [show ((k : Int) == (a.length : Int)) = true from beq_iff_eq.2 (by omega)]
   refine ⟨fun h => (by cases h), ?_⟩
   assumption
 refine ⟨fun h => ⟨Int.le_refl _, by have := (zC _ _).1 h; omega⟩, zu.2 ⟨fun c => ?_, fun c => ?_⟩⟩
 ·rw [Bool.and_eq_true, zC, show (((a.getD 0 0).toNat : Int) == 45) = (a.getD 0 0 == 45) from yb (a.getD 0 0) 45 (by decide), beq_iff_eq] at c
  refine loop 1 ?_ (xw c.1 c.2).2.2.1 c.1
  rw [tk c.1 c.2]
  exact ⟨fun ⟨h1, h2, h3⟩ => ⟨h1, h2, fun h => h3 h.1⟩, fun ⟨h1, h2, h3⟩ => ⟨h1, h2, fun h => h3 ⟨h, h1⟩⟩⟩
 ·rw [show (((a.getD 0 0).toNat : Int) == 45) = (a.getD 0 0 == 45) from yb (a.getD 0 0) 45 (by decide)] at c
  obtain ⟨e1, e2, _⟩ := Yl (a := a) fun h => by rw [(zC _ _).2 h.1, h.2] at c; cases c
  refine loop 0 ?_ e2 (Nat.zero_le _)
  rw [e1, Wh]
  exact ⟨fun ⟨h1, h2, h3⟩ => ⟨h1, fun i _ h => h2 i h, fun h => h3 h.2 h.1⟩, fun ⟨h1, h2, h3⟩ => ⟨h1, fun i h => h2 i (Nat.zero_le _) h, fun h e => h3 ⟨e, h⟩⟩⟩
theorem Or (a : List UInt8) (hl : a.length ≤ 4294967280) : zS Tryz.prog [] 152 [.str a] (.i (Zt a)) :=
 zV (T := T0) (an := Qk a) mixed zr (Eq.mp (by kernel_rfl) (QE a hl))
theorem ss : zQ Tryz.prog [] 152 WG := by
 intro xs ps r h hp
 unfold WG at h
 split at h
 ·skip
  rename_i a
  cases h
  obtain ⟨q0, -⟩ := Zx hp
  exact weaken (ys := [.str a]) ⟨zX _, trivial⟩ (Or a q0)
 ·cases h
def Om (l : List Int) : yW :=
 .two .auto (.two .auto (.two (.one (.loop Nat (fun σ z => [(0, σ.tm 0), (3, .i z)]) (fun σ z => []) 0 (fun σ z => z ≤ l.length ∧ ∀ i, z ≤ i → l.getD i 0 = 0) (fun σ z => z) .auto)) .auto))
def xJ : List AV → Option (List zN × AV)
 | [x_l] => some ([.b (za Int x_l)], Zp (zm (zv x_l)))
 | _ => none
theorem nt (l : List Int) :
 let q1 := (xI l); zB [xI l] → (∃ (z : Nat), ((z ≤ lN l ∧ ∀ (i : Nat), z ≤ i → gD l i iZ = iZ) ∧ zc q1 q1 ∧ kI ∧ (lZ l) = (cI z)) ∧ True) ∧ ∀ (z : Nat), let q2 := (!zU true (zn iZ (cI z)) || zU true (zn iZ (cI z))); (z ≤ lN l ∧ ∀ (i : Nat), z ≤ i → gD l i iZ = iZ) → bF q2 (bF (!zU true (zn (0 :
 Int) (cI z)) || dK ((cI z) - iO)) (bF q2 (bF q2 (bF (!zU true (zn iZ (cI z)) || DB.db (iZ ≤ (cI z) - iO ∧ (cI z) - iO < (lZ l))) (bF q2 (bF q2 (bF (!zn iZ (cI z) || zU true (zn iZ (cI z))) (zZ (bif zn iZ (cI z) then gD l (Int.toNat ((cI z) - iO)) zp.dflt == iZ else false) (bF (dK ((cI z) - iO)) (∃ (z' : Nat), (((z' ≤ lN l ∧ ∀ (i : Nat), z' ≤ i → gD l i iZ = (0 :
 Int)) ∧ z' < z) ∧ zc q1 q1 ∧ kI ∧ (cI z) - iO = (cI z')) ∧ True)) (bF (DB.db (iZ ≤ (cI z) ∧ (cI z) ≤ (lZ l))) ((false = true → false = true) ∧ 1 = 1 ∧ lN (zm l) = Int.toNat (cI z) ∧ ∀ (i j : Nat), i < Int.toNat (cI z) → j < 1 → kI ∧ gD l i zp.dflt = gD (zm l) i zp.dflt)))))))))) := by
 delta bF dK xI cI kI lZ lN gD iZ iO
 dsimp only
 intro hb
 have e0 : (zp.dflt : Int) = 0 := rfl
 simp only [sS, dS, e0, Ze, wT]
 have hb1 : l.length ≤ 9223372036854775807 := hb.1
 refine ⟨⟨l.length, ⟨Nat.le_refl _, fun i hi => wv hi⟩, rfl⟩, fun z ⟨h1, h2⟩ => ⟨fun hp => ⟨by omega, by omega⟩, fun hp => ?_, zu.2 ⟨fun c => ?_, fun c => ?_⟩⟩⟩
 ·have := (zC _ _).1 hp; omega
 ·rw [Bool.and_eq_true, beq_iff_eq] at c
  have hp := (zC _ _).1 c.1
  refine ⟨⟨by omega, by omega⟩, z - 1, ⟨⟨by omega, fun i hi => ?_⟩, by omega⟩, by omega⟩
  grind
 ·have ht := wq h1 h2 (by
   by_cases hz : z = 0
   ·exact .inl hz
   ·refine .inr fun e => ?_
    simp_all)
  grind
theorem NO (l : List Int) : zS Tryz.prog [] 154 [Zp l] (Zp (zm l)) :=
 zV (T := T0) (an := Om l) mixed zr (Eq.mp (by kernel_rfl) (nt l))
theorem wS : zQ Tryz.prog [] 154 xJ := by
 intro xs ps r h hp
 unfold xJ at h
 split at h
 ·skip
  rename_i x_l
  cases h
  obtain ⟨q0, -⟩ := Zx hp
  exact weaken (ys := [Zp (zv x_l)]) ⟨zi q0, trivial⟩ (NO (zv x_l))
 ·cases h
def wU : List AV → Option (List zN × AV)
 | [x_l, .v (.int .i64 i)] => some ([.b (za Int x_l), .p (0 ≤ i)], .i ((zv x_l).getD i.toNat 0))
 | _ => none
theorem nH (l : List Int) (i : Int) (h0 : 0 ≤ i) :
 zB [xI l, aI i] → zZ (zn i (lZ l)) (bF (DB.db (iZ ≤ i ∧ i < (lZ l))) (kI ∧ gD l (Int.toNat i) zp.dflt = gD l (Int.toNat i) iZ)) (kI ∧ iZ = gD l (Int.toNat i) iZ) := by
 delta bF xI kI lZ gD iZ aI
 intro hb
 have e0 : (zp.dflt : Int) = 0 := rfl
 simp only [sS, dS, e0, Ze]
 simp_all
theorem lf (l : List Int) (i : Int) (h0 : 0 ≤ i) : zS Tryz.prog [] 156 [Zp l, .i i] (.i (l.getD i.toNat 0)) :=
 zV (T := T0) (an := .auto) mixed zr (Eq.mp (by kernel_rfl) (nH l i h0))
theorem VV : zQ Tryz.prog [] 156 wU := by
 intro xs ps r h hp
 unfold wU at h
 split at h
 ·skip
  rename_i x_l i
  cases h
  obtain ⟨q0, q1, -⟩ := Zx hp
  exact weaken (ys := [Zp (zv x_l), .i i]) ⟨zi q0, zX _, trivial⟩ (lf (zv x_l) i q1)
 ·cases h
def oH (x y : List Int) : yW :=
 .two .auto (.two .auto (.two (.two .auto (.one (.loop Nat (fun σ z => [(0, σ.tm 0), (1, σ.tm 1), (5, .i ((z : Int) - 1))]) (fun σ z => []) 0 (fun σ z => z ≤ x.length ∧ ∀ i, z ≤ i → i < x.length → x.getD i 0 = y.getD i 0) (fun σ z => z) .auto))) .auto))
def vD : List AV → Option (List zN × AV)
 | [x_x, x_y] => some ([.b (za Int x_x), .b (za Int x_y)], .i (ug (cmpL (zv x_x) (zv x_y))))
 | _ => none
theorem nm (x : List Int) (y : List Int) :
 let q1 := (kI ∧ (-1 : Int) = ug (cmpL x y)); let q2 := (kI ∧ iO = ug (cmpL x y)); let q3 := (xI x); let q4 := (xI y); zB [xI x, xI y] → zZ ((lZ x) != (lZ y)) (zZ (zn (cI (List.length
 x)) (lZ y)) q1 q2) (bF (dK ((lZ x) - iO)) ((∃ (z : Nat), ((z ≤ lN x ∧ ∀ (i : Nat), z ≤ i → i < lN x → gD x i iZ = gD y i iZ) ∧ zc q3 q3 ∧ zc q4 q4 ∧ kI ∧ (lZ x) - iO = (cI z) - iO) ∧ True) ∧ ∀ (z : Nat), let q5 := (DB.db (iZ ≤ (cI z) - iO ∧ (cI z) - iO < (lZ x))); let q6 := (DB.db (iZ ≤ (cI z) - iO ∧ (cI z) - iO < (lZ y))); let q7 :=
 (gD x (Int.toNat ((cI z) - iO)) zp.dflt); let q8 := (gD y (Int.toNat ((cI z) - iO)) zp.dflt); (z ≤ lN x ∧ ∀ (i : Nat), z ≤ i → i < lN x → gD x i iZ = gD y i iZ) → zZ (leB iZ ((cI z) - iO)) (bF q5 (bF q6 (zZ (zn q7 q8) q1 (bF q5 (bF q6 (zZ (zn q8 q7) q2 (bF (dK ((cI z) - iO - iO)) (∃ (z' : Nat), (((z' ≤ lN x ∧ ∀ (i : Nat), z' ≤ i → i < lN x → gD x i iZ = gD y i iZ) ∧ z' < z) ∧ zc q3
 q3 ∧ zc q4 q4 ∧ kI ∧ (cI z) - iO - iO = (cI z') - iO) ∧ True)))))))) (kI ∧ iZ = ug (cmpL x y)))) := by
 delta bF dK xI cI kI lZ lN gD iZ iO
 dsimp only
 intro hb
 have e0 : (zp.dflt : Int) = 0 := rfl
 simp only [sS, dS, e0, Ze, wT]
 have hx : x.length ≤ 9223372036854775807 := hb.1.1
 have hy : y.length ≤ 9223372036854775807 := hb.2.1
 refine ⟨fun hne => ?_, fun heq => ⟨⟨by omega, by omega⟩, ⟨x.length, ⟨Nat.le_refl _, fun i h1 h2 => by omega⟩, rfl⟩, fun z ⟨h1, h2⟩ => ⟨fun hz => ?_, fun hz => ?_⟩⟩⟩
 ·rw [oU (fun e => hne (by omega))]
  exact ⟨fun h => (rf (by omega)).symm, fun h => (rL (by omega)).symm⟩
 ·have hd : cmpL x y = vz x y z := by rw [cmpL_eq (by omega), X3 h1 h2]
  have hd2 : vz x y z = bif x.getD (z - 1) 0 != y.getD (z - 1) 0 then x.getD (z - 1) 0 - y.getD (z - 1) 0 else vz x y (z - 1) := by
   conv => lhs; rw [show z = z - 1 + 1 by omega]
   rfl
  refine ⟨⟨by omega, by omega⟩, ⟨by omega, by omega⟩, fun h => ?_, fun h => ⟨⟨by omega, by omega⟩, ⟨by omega, by omega⟩, fun h3 => ?_, fun h3 => ⟨⟨by omega, by omega⟩, z - 1, ⟨⟨by omega, fun i h4 h5 => ?_⟩, by omega⟩, by omega⟩⟩⟩
  ·rw [hd, hd2, bne_iff_ne.2 (by omega)]
   exact (rf (by simp only [cond_true]; omega)).symm
  ·rw [hd, hd2, bne_iff_ne.2 (by omega)]
   exact (rL (by simp only [cond_true]; omega)).symm
  grind
 ·rw [cmpL_eq (by omega), X3 h1 h2, show z = 0 by omega]; rfl
theorem M6 (x : List Int) (y : List Int) : zS Tryz.prog [] 159 [Zp x, Zp y] (.i (ug (cmpL x y))) :=
 zV (T := T0) (an := oH x y) mixed zr (Eq.mp (by kernel_rfl) (nm x y))
theorem qO : zQ Tryz.prog [] 159 vD := by
 intro xs ps r h hp
 unfold vD at h
 split at h
 ·skip
  rename_i x_x x_y
  cases h
  obtain ⟨q0, q1, -⟩ := Zx hp
  exact weaken (ys := [Zp (zv x_x), Zp (zv x_y)]) ⟨zi q0, zi q1, trivial⟩ (M6 (zv x_x) (zv x_y))
 ·cases h
end Go.Te
