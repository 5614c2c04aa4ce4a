/- rational: digits, cut. -/
import Derived.Test.YthbpnknhfokadaaGreatDoorThE
set_option linter.unusedSimpArgs false
set_option linter.unusedVariables false
namespace Go.Te
open Go Go.Sx Go.Proofs Go.Ar
set_option maxRecDepth 100000
set_option maxHeartbeats 4000000
def WT (s : zj) : Int := bif Nat.blt 1 (wQ s).length && s.getD 0 0 == 48 then 0 else ((wQ s).length : Int)
theorem sd (c : UInt8) : ∀ s : zj, (0 ≤ Lib.indexByte s c → ∃ z : Nat, Lib.indexByte s c = z ∧ z < s.length ∧ (∀ i, i < z → s.getD i 0 ≠ c) ∧ s.getD z 0 = c) ∧ (Lib.indexByte s c < 0 → ∀ i, i < s.length → s.getD i 0 ≠ c)
 | [] => ⟨fun h => by simp [Lib.indexByte] at h, fun _ i hi => absurd hi (Nat.not_lt_zero _)⟩
 | x :: s => by
  obtain ⟨h1, h2⟩ := sd c s
  unfold Lib.indexByte
  have ge := Lib.indexByte_ge s c
  by_cases hx : x = c
  ·subst hx
   simp only [if_true, beq_self_eq_true, ↓reduceIte]
   exact ⟨fun _ => ⟨0, rfl, by simp, fun i hi => absurd hi (Nat.not_lt_zero _), rfl⟩, fun h => absurd h (by decide)⟩
  ·have hx' : (x == c) = false := beq_eq_false_iff_ne.2 hx
   simp only [hx', hx, if_false, Bool.false_eq_true, ↓reduceIte]
   refine ⟨fun h => ?_, fun h => ?_⟩
   ·split at h
    ·exact absurd h (by decide)
    ·rename_i hn
     have hne : Lib.indexByte s c ≠ -1 := by simpa using hn
     obtain ⟨z, e, h3, h4, h5⟩ := h1 (by omega)
     refine ⟨z + 1, ?_, by simp; omega, fun i hi => ?_, h5⟩
     ·rw [if_neg hn, e]; omega
     ·match i with
      | 0 => exact hx
      | i + 1 => exact h4 i (by omega)
   ·split at h
    ·rename_i hn
     intro i hi
     match i with
     | 0 => exact hx
     | i + 1 =>
      have heq : Lib.indexByte s c = -1 := by simpa using hn
      exact h2 (by omega) i (by simpa using hi)
    ·rename_i hn
     have hne : Lib.indexByte s c ≠ -1 := by simpa using hn
     omega
theorem mB (s : zj) : (WT s == 0 || zg (WT s) (s.length : Int)) = !Z2 s := by
 have hsp := congrArg List.length (uF s)
 rw [List.length_append, List.length_drop] at hsp
 cases hd : Z2 s with
 | true =>
  obtain ⟨d1, d2, d3⟩ := Zt.1 hd
  have ht := SK hd
  have e : WT s = (s.length : Int) := by
   unfold WT
   rw [ht]
   cases hb : Nat.blt 1 s.length with
   | false => rfl
   | true =>
    rw [beq_eq_false_iff_ne.2 (d3 ((ZY _ _).1 hb))]
    rfl
  rw [e, beq_eq_false_iff_ne.2 (by omega), show zg (s.length : Int) (s.length : Int) = false from Bool.eq_false_iff.2 fun e => by have := (zq _ _).1 e; omega]
  rfl
 | false =>
  show _ = true
  unfold WT
  cases hb : Nat.blt 1 (wQ s).length && s.getD 0 0 == 48 with
  | true => rfl
  | false =>
   simp only [cond_false]
   by_cases h0 : (wQ s).length = 0
   ·rw [h0]; rfl
   by_cases hl : (wQ s).length < s.length
   ·rw [(zq _ _).2 (by omega), Bool.or_true]
   refine absurd hd ?_
   have ht : wQ s = s := by
    have := uF s
    rw [List.drop_of_length_le (by omega), List.append_nil] at this
    exact this
   rw [ht] at hb h0
   have : Z2 s = true := Zt.2 ⟨by omega, fun c hc => nw s c (by rw [ht]; exact hc), fun h1 e => by
    rw [(ZY _ _).2 h1, e] at hb
    cases hb⟩
   rw [this]
   decide
def LE (s : zj) : yt :=
 .two .auto (.two .auto (.two (.one (.loop Nat (fun σ z => [(0, σ.tm 0), (3, .i (z : Int))]) (fun σ z => []) 0 (fun σ z => z ≤ s.length ∧ ∀ i, i < z → Zc (s.getD i 0) = true) (fun σ z => s.length - z) .auto)) .auto))
def Qn : List AV → Option (List zN × AV)
 | [.str s] => some ([.p (s.length ≤ 9223372036854775807)], .i (WT s))
 | _ => none
theorem Kt (s : List UInt8) (hl : s.length ≤ 9223372036854775807) :
 Zw [AV.str s] → (∃ (z : Nat), ((z ≤ lN s ∧ ∀ (i : Nat), i < z → Zc (gD s i (0 : UInt8)) = true) ∧ s = s ∧ kI ∧ iZ = (cI z)) ∧ True) ∧ ∀ (z : Nat), let q2 := (zg (cI z) (lZ s)); let q1 := (!zr true q2 || zr true q2); let q3 := (iZ ≤ (cI z) ∧ (cI z) < (lZ s)); let q6 := (cI (UInt8.toNat (gD s (Int.toNat (↑z : Int)) (0 : UInt8)))); let q5 := (bif zg (cI z) (lZ s) then leB (48 : Int) q6 else false); let q4 := (!zr true q5 || zr true q5); let q7 := (!zr
 true (zg iO (cI z)) || zr true (zg iO (cI z))); (z ≤ lN s ∧ ∀ (i : Nat), i < z → Zc (gD s i (0 : UInt8)) = true) → bF q1 (bF q1 (bF (!zr true q2 || DB.db q3) (bF q1 (bF (!zg (cI z) (lZ s) || zr true q2) (bF q4 (bF q4 (bF (!zr true q5 || DB.db q3) (bF q4 (bF ((!bif zg (cI z) (lZ s) then leB (48 : Int) q6 else false) || zr true q5) (zZ (bif bif zg (cI z) (lZ s) then leB (48 : Int) q6 else false then leB q6 (57 : Int) else false)
 (bF (dK ((cI z) + iO)) (∃ (z' : Nat), (((z' ≤ lN s ∧ ∀ (i : Nat), i < z' → Zc (gD s i (0 : UInt8)) = true) ∧ lN s - z' < lN s - z) ∧ s = s ∧ kI ∧ (cI z) + iO = (cI z')) ∧ True)) (bF q7 (bF (!zr true (zg iO (cI z)) || DB.db (iZ ≤ iZ ∧ iZ < (lZ s))) (bF q7 (bF (!zg iO (cI z) || zr true (zg iO (cI z))) (zZ (bif zg iO (cI z) then (cI (UInt8.toNat (gD s 0 (0 : UInt8)))) == (48 :
 Int) else false) (kI ∧ iZ = WT s) (kI ∧ (cI z) = WT s)))))))))))))))) := by
 delta bF dK cI kI lZ lN gD iZ iO
 dsimp only
 intro hb
 simp only [sS, dS, xw]
 have dg2 : ∀ c : UInt8, (leB 48 (c.toNat : Int) && leB (c.toNat : Int) 57) = Zc c := fun c => by rw [Bool.eq_iff_iff, Bool.and_eq_true, Zz, Zz, y9]; omega
 simp only [Bool.and_assoc, dg2]
 refine ⟨⟨0, ⟨Nat.zero_le _, fun i hi => absurd hi (Nat.not_lt_zero _)⟩, rfl⟩, fun z ⟨z1, z3⟩ => ⟨fun h => ?_, fun h => ?_, zX.2 ⟨fun c => ?_, fun c => ⟨fun h => ?_, ?_⟩⟩⟩⟩
 ·have := (zq _ _).1 h; exact ⟨by omega, by omega⟩
 ·rw [Bool.and_eq_true] at h; have := (zq _ _).1 h.1; exact ⟨by omega, by omega⟩
 ·rw [Bool.and_eq_true] at c
  have c1 := (zq _ _).1 c.1
  refine ⟨⟨by omega, by omega⟩, z + 1, ⟨⟨by omega, fun i hi => ?_⟩, by omega⟩, by omega⟩
  by_cases e : i = z
  ·rw [e]; exact c.2
  ·exact z3 i (by omega)
 ·have := (zq _ _).1 h; exact ⟨by omega, by omega⟩
 ·have h3 : z = s.length ∨ Zc (s.getD z 0) = false := by
   by_cases q1 : z = s.length
   ·exact .inl q1
   ·rw [(zq _ _).2 (show (z : Int) < (s.length : Int) by omega), Bool.true_and] at c
    exact .inr c
  have ht := Q7 z1 z3 h3
  have hl : (wQ s).length = z := by rw [ht, List.length_take]; omega
  have e1 : (zg 1 (z : Int) && ((s.getD 0 0).toNat : Int) == 48) = (Nat.blt 1 z && s.getD 0 0 == 48) := by
   rw [show (((s.getD 0 0).toNat : Int) == 48) = (s.getD 0 0 == 48) from vP (s.getD 0 0) 48 (by decide), show zg 1 (z : Int) = Nat.blt 1 z from by rw [Bool.eq_iff_iff, zq, ZY]; omega]
  rw [e1]
  unfold WT
  rw [hl]
  refine zX.2 ⟨fun k => ?_, fun k => ?_⟩
  ·rw [k]; rfl
  ·rw [k]; rfl
theorem jP (s : List UInt8) (hl : s.length ≤ 9223372036854775807) : zt Tryz.prog [] 141 [.str s] (.i (WT s)) :=
 zW (T := T0) (an := LE s) mixed zQ (Eq.mp (by kernel_rfl) (Kt s hl))
theorem JN : zp Tryz.prog [] 141 Qn := by
 intro xs ps r h hp
 unfold Qn at h
 split at h
 ·skip
  rename_i s
  cases h
  obtain ⟨q0, -⟩ := ZI hp
  exact weaken (ys := [.str s]) ⟨zS _, trivial⟩ (jP s q0)
 ·cases h
noncomputable def ii : Tb := (T0.plus 186 sC).body Tryz.prog [(174, .auto)]
theorem Q3 : zz Tryz.prog ii := zz.body mixed (zz.plus zQ m9) _
theorem LR (s : zj) (hl : s.length ≤ 9223372036854775807) :
 Zw [AV.str s, AV.str [(47 : UInt8)]] → zZ (leB iZ (Lib.indexByte s (47 : UInt8))) (bF (DB.db (iZ ≤ Lib.indexByte s (47 : UInt8) ∧ Lib.indexByte s (47 : UInt8) ≤ (lZ s))) (bF (dK (Lib.indexByte s (47 : UInt8) + (↑1 : Int))) (bF (DB.db (iZ ≤ Lib.indexByte s (47 : UInt8) + (↑1 : Int) ∧ Lib.indexByte s (47 : UInt8) + (↑1 : Int) ≤ (lZ s))) (3 = lN [AV.junk, AV.junk, AV.junk] ∧ ((True ∧ List.take (Int.toNat (Lib.indexByte s (47 : UInt8))) s = zn s) ∧ List.drop (Int.toNat (Lib.indexByte s (47 : UInt8) +
 (↑1 : Int))) s = zB s) ∧ true = zJ s)))) (3 = lN [AV.junk, AV.junk, AV.junk] ∧ ((True ∧ s = zn s) ∧ bA #[] = zB s) ∧ false = zJ s) := by
 delta bF dK bA lZ lN iZ
 intro hb
 simp only [sS, dS, xw]
 obtain ⟨h1, h2⟩ := sd 47 s
 refine ⟨fun h => ?_, fun h => ?_⟩
 ·obtain ⟨z, e, z1, z2, z3⟩ := h1 h
  obtain ⟨c1, c2, c3⟩ := JM z1 z2 z3
  rw [e, c1, c2, c3, show ((z : Int)).toNat = z from rfl, show ((z : Int) + 1).toNat = z + 1 by omega]
  exact ⟨⟨by omega, by omega⟩, ⟨by omega, by omega⟩, ⟨by omega, by omega⟩, rfl, ⟨rfl, rfl⟩, rfl⟩
 ·obtain ⟨c1, c2, c3⟩ := Nr (h2 h)
  rw [c1, c2, c3]
  exact ⟨rfl, ⟨rfl, rfl⟩, rfl⟩
def SZ : List AV → Option (List zN × AV)
 | [.str s, .str p] => some ([.b (p == [47]), .p (s.length ≤ 9223372036854775807)], .tup 3 (zw [.str (zn s), .str (zB s), .b (zJ s)]))
 | _ => none
theorem jn : zp Tryz.prog [] 139 SZ := by
 intro xs ps r h hp
 unfold SZ at h
 split at h
 ·rename_i s p
  cases h
  have q : (p == [47]) = true := hp _ List.mem_cons_self
  have q1 : s.length ≤ 9223372036854775807 := hp _ (List.mem_cons_of_mem _ List.mem_cons_self)
  obtain rfl := eq_of_beq q
  exact zW mixed Q3 (Eq.mp (by kernel_rfl) (LR s q1) : vR Tryz.prog ii 139 (.auto) [.str s, .str [47]] (.tup 3 (zw [.str (zn s), .str (zB s), .b (zJ s)])))
 ·cases h
theorem NI (t : zj) : Zy t = (Z2 (zR t) && !(zk t && zR t == [48])) := by
 match t with
 | [] => rfl
 | c :: r =>
  by_cases hc : c = 45
  ·subst hc
   rfl
  ·have hm : zk (c :: r) = false := beq_eq_false_iff_ne.2 hc
   obtain ⟨h1, _, _⟩ := WV (a := c :: r) fun h => hc h.2
   rw [h1, hm, ← Sv hm, Bool.false_and, Bool.not_false, Bool.and_true]
noncomputable def H8 : Tb := ((T0.plus 139 SZ).plus 140 (YL fun s => .tup 2 (zw [.str (zR s), .b (zk s)]))).plus 141 Qn
theorem P1 : zz Tryz.prog H8 := zz.plus (zz.plus (zz.plus zQ jn) Qv) JN
def QQ : List AV → Option (List zN × AV)
 | [.str a] => some ([.p (a.length ≤ 9223372036854775807)], .tup 2 (zw [.agg 2 (zw [.str (bif ZO a then zn a else []), .str (bif ZO a then (bif zJ a then zB a else [49]) else [])]), .b (ZO a)]))
 | _ => none
theorem LY (a : List UInt8) (hl : a.length ≤ 9223372036854775807) :
 let q1 := (!zr false (WT (zR (zn a)) == iZ) || zr false (WT (zR (zn a)) == iZ)); let q3 := (bif WT (zR (zn a)) == iZ then true else zg (WT (zR (zn a))) (lZ (zR (zn a)))); let q2 := (!zr false q3 || zr false q3); let q4 := (ByteArray.data (ByteArray.mk #[(48 : UInt8)])); let q5 := (j2 ∧ (True ∧ 2 = 2 ∧ (bA #[] = bif ZO a then zn a else []) ∧ bA #[] = bif ZO a then bif zJ a then zB a else [(49 :
 UInt8)] else []) ∧ false = ZO a); let q6 := (zn a = bif ZO a then zn a else []); let q7 := (ByteArray.data (ByteArray.mk #[(49 : UInt8)])); let q8 := (!zr false (WT (zB a) == iZ) || zr false (WT (zB a) == iZ)); let q9 := (bif WT (zB a) == iZ then true else zg (WT (zB a)) (lZ (zB a))); let q10 := (bif bif WT (zB a) == iZ then true else zg (WT (zB a)) (lZ (zB a)) then true else zB a == Array.toList q4); Zw [AV.str a] → lN a ≤ nX ∧ lN (zR (zn a)) ≤
 nX ∧ bF q1 (bF q1 (bF q1 (bF (!!WT (zR (zn a)) == iZ || zr false (WT (zR (zn a)) == iZ)) (bF q2 (bF (!(zr false q3 && zr true (zk (zn a))) || zr false q3 && zr true (zk (zn a))) (bF q2 (bF (!zr false q3 || (!zk (zn a) || zr false q3 && zr true (zk (zn a)))) (bF ((!!bif WT (zR (zn a)) == iZ then true else zg (WT (zR (zn a))) (lZ (zR (zn a)))) || zr false q3) (zZ (bif bif WT (zR (zn a)) == iZ then true else zg (WT (zR (zn a)))
 (lZ (zR (zn a))) then true else bif zk (zn a) then zR (zn a) == Array.toList q4 else false) q5 (zZ (!zJ a) (j2 ∧ (True ∧ 2 = 2 ∧ q6 ∧ Array.toList q7 = bif ZO a then bif zJ a then zB a else [(49 : UInt8)] else []) ∧ true = ZO a) (lN (zB a) ≤ nX ∧ bF q8 (bF q8 (bF q8 (bF (!!WT (zB a) == iZ || zr false (WT (zB a) == iZ)) (bF (!zr false q9 || zr false q9) (bF ((!!bif WT (zB a) == iZ then true else zg (WT (zB a)) (cI (List.length
 (zB a)))) || zr false q9) (bF (!zr false q10 || zr false q10) (bF ((!!bif bif WT (zB a) == iZ then true else zg (WT (zB a)) (lZ (zB a)) then true else zB a == Array.toList q4) || zr false q10) (zZ (bif bif bif WT (zB a) == iZ then true else zg (WT (zB a)) (lZ (zB a)) then true else zB a == Array.toList q4 then true else zB a == Array.toList q7) q5 (j2 ∧ (True ∧ 2 = 2 ∧ q6 ∧ zB a = bif ZO a then bif zJ a then zB a else [(49 : UInt8)] else []) ∧ true =
 ZO a)))))))))))))))))))) := by
 delta bF bA nX cI j2 lZ lN iZ
 dsimp only
 intro hb
 simp only [sS, dS, xw, mB]
 have hF : ZO a = (Zy (zn a) && (!zJ a || Z2 (zB a) && !(zB a == [48]) && !(zB a == [49]))) := rfl
 rw [NI] at hF
 have l1 := vY a
 have l2 := RN a
 have l3 := Uy (zn a)
 generalize Z2 (zR (zn a)) = p1 at *
 generalize (zk (zn a)) = p2 at *
 generalize (zR (zn a) == [48]) = p3 at *
 refine ⟨hl, by omega, ?_⟩
 refine UQ (by cases p1 <;> cases p2 <;> rfl) ?_
 refine zX.2 ⟨fun c => ?_, fun c => zX.2 ⟨fun c2 => ?_, fun c2 => ⟨by omega, zX.2 ⟨fun c3 => ?_, fun c3 => ?_⟩⟩⟩⟩
 ·have e : ZO a = false := by
   rw [hF]
   revert c
   cases p1 <;> cases p2 <;> cases p3 <;> simp
  rw [e]
  exact ⟨rfl, ⟨rfl, rfl⟩, rfl⟩
 ·have hs : zJ a = false := by simpa using c2
  have e : ZO a = true := by
   rw [hF, hs]
   revert c
   cases p1 <;> cases p2 <;> cases p3 <;> simp
  rw [e, hs]
  exact ⟨rfl, ⟨rfl, rfl⟩, rfl⟩
 ·have hs : zJ a = true := by simpa using c2
  have e : ZO a = false := by
   rw [hF, hs]
   revert c3
   cases Z2 (zB a) <;> cases zB a == [48] <;> cases zB a == [49] <;> simp
  rw [e]
  exact ⟨rfl, ⟨rfl, rfl⟩, rfl⟩
 ·have hs : zJ a = true := by simpa using c2
  have e : ZO a = true := by
   rw [hF, hs]
   revert c c3
   cases Z2 (zB a) <;> cases zB a == [48] <;> cases zB a == [49] <;> cases p1 <;> cases p2 <;> cases p3 <;> simp
  rw [e, hs]
  exact ⟨rfl, ⟨rfl, rfl⟩, rfl⟩
theorem jD (a : List UInt8) (hl : a.length ≤ 9223372036854775807) : zt Tryz.prog [] 94 [.str a] (.tup 2 (zw [.agg 2 (zw [.str (bif ZO a then zn a else []), .str (bif ZO a then (bif zJ a then zB a else [49]) else [])]), .b (ZO a)])) :=
 zW (T := H8) (an := .auto) mixed P1 (Eq.mp (by kernel_rfl) (LY a hl))
theorem J6 : zp Tryz.prog [] 94 QQ := by
 intro xs ps r h hp
 unfold QQ at h
 split at h
 ·skip
  rename_i a
  cases h
  obtain ⟨q0, -⟩ := ZI hp
  exact weaken (ys := [.str a]) ⟨zS _, trivial⟩ (jD a q0)
 ·cases h
end Go.Te
