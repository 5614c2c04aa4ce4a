/- rational: digits, cut. -/
import Derived.Test.YtgpbohfbhfbelaaGreatDoorTkE
set_option linter.unusedSimpArgs false
set_option linter.unusedVariables false
namespace Go.Te
open Go Go.Sx Go.Proofs Go.Ar
set_option maxRecDepth 100000
set_option maxHeartbeats 4000000
def vy (s : zj) : Int := bif Nat.blt 1 (Wz s).length && s.getD 0 0 == 48 then 0 else ((Wz s).length : Int)
theorem SI (c : UInt8) : ∀ s : zj, (0 ≤ Lib.indexByte s c → ∃ z : Nat, Lib.indexByte s c = z ∧ z < s.length ∧ (∀ i, i < z → s.getD i 0 ≠ c) ∧ s.getD z 0 = c) ∧ (Lib.indexByte s c < 0 → ∀ i, i < s.length → s.getD i 0 ≠ c)
 | [] => ⟨fun h => by simp [Lib.indexByte] at h, fun _ i hi => absurd hi (Nat.not_lt_zero _)⟩
 | x :: s => by
  obtain ⟨h1, h2⟩ := SI c s
  unfold Lib.indexByte
  have ge := Lib.indexByte_ge s c
  by_cases hx : x = c
  ·subst hx
   simp only [if_true, beq_self_eq_true, ↓reduceIte]
   exact ⟨fun _ => ⟨0, rfl, by simp, fun i hi => absurd hi (Nat.not_lt_zero _), rfl⟩, fun h => absurd h (by decide)⟩
  ·have hx' : (x == c) = false := beq_eq_false_iff_ne.2 hx
   simp only [hx', hx, if_false, Bool.false_eq_true, ↓reduceIte]
   refine ⟨fun h => ?_, fun h => ?_⟩
   ·split at h
    ·exact absurd h (by decide)
    ·rename_i hn
     have hne : Lib.indexByte s c ≠ -1 := by simpa using hn
     obtain ⟨z, e, h3, h4, h5⟩ := h1 (by omega)
     refine ⟨z + 1, ?_, by simp; omega, fun i hi => ?_, h5⟩
     ·rw [if_neg hn, e]; omega
     ·match i with
      | 0 => exact hx
      | i + 1 => exact h4 i (by omega)
   ·split at h
    ·rename_i hn
     intro i hi
     match i with
     | 0 => exact hx
     | i + 1 =>
      have heq : Lib.indexByte s c = -1 := by simpa using hn
      exact h2 (by omega) i (by simpa using hi)
    ·rename_i hn
     have hne : Lib.indexByte s c ≠ -1 := by simpa using hn
     omega
theorem lp (s : zj) : (vy s == 0 || zM (vy s) (s.length : Int)) = !Z6 s := by
 have hsp := congrArg List.length (UE s)
 rw [List.length_append, List.length_drop] at hsp
 cases hd : Z6 s with
 | true =>
  obtain ⟨d1, d2, d3⟩ := Zt.1 hd
  have ht := RZ hd
  have e : vy s = (s.length : Int) := by
   unfold vy
   rw [ht]
   cases hb : Nat.blt 1 s.length with
   | false => rfl
   | true =>
    rw [beq_eq_false_iff_ne.2 (d3 ((Zx _ _).1 hb))]
    rfl
  rw [e, beq_eq_false_iff_ne.2 (by omega), show zM (s.length : Int) (s.length : Int) = false from Bool.eq_false_iff.2 fun e => by have := (zq _ _).1 e; omega]
  rfl
 | false =>
  show _ = true
  unfold vy
  cases hb : Nat.blt 1 (Wz s).length && s.getD 0 0 == 48 with
  | true => rfl
  | false =>
   simp only [cond_false]
   by_cases h0 : (Wz s).length = 0
   ·rw [h0]; rfl
   by_cases hl : (Wz s).length < s.length
   ·rw [(zq _ _).2 (by omega), Bool.or_true]
   refine absurd hd ?_
   have ht : Wz s = s := by
    have := UE s
    rw [List.drop_of_length_le (by omega), List.append_nil] at this
    exact this
   rw [ht] at hb h0
   have : Z6 s = true := Zt.2 ⟨by omega, fun c hc => Ln s c (by rw [ht]; exact hc), fun h1 e => by
    rw [(Zx _ _).2 h1, e] at hb
    cases hb⟩
   rw [this]
   decide
def jD (s : zj) : yV :=
 .two .auto (.two .auto (.two (.one (.loop Nat (fun σ z => [(0, σ.tm 0), (3, .i (z : Int))]) (fun σ z => []) 0 (fun σ z => z ≤ s.length ∧ ∀ i, i < z → Zd (s.getD i 0) = true) (fun σ z => s.length - z) .auto)) .auto))
def Qm : List AV → Option (List zN × AV)
 | [.str s] => some ([.p (s.length ≤ 9223372036854775807)], .i (vy s))
 | _ => none
theorem kB (s : List UInt8) (hl : s.length ≤ 9223372036854775807) :
 zB [AV.str s] → (∃ (z : Nat), ((z ≤ lN s ∧ ∀ (i : Nat), i < z → Zd (gD s i (0 : UInt8)) = true) ∧ s = s ∧ kI ∧ iZ = (cI z)) ∧ True) ∧ ∀ (z : Nat), let q2 := (zM (cI z) (lZ s)); let q1 := (!zS true q2 || zS true q2); let q3 := (iZ ≤ (cI z) ∧ (cI z) < (lZ s)); let q6 := (cI (UInt8.toNat (gD s (Int.toNat (↑z : Int)) (0 : UInt8)))); let q5 := (bif zM (cI z) (lZ s) then leB (48 : Int) q6 else false); let q4 := (!zS true q5 || zS true q5); let q7 := (!zS
 true (zM iO (cI z)) || zS true (zM iO (cI z))); (z ≤ lN s ∧ ∀ (i : Nat), i < z → Zd (gD s i (0 : UInt8)) = true) → bF q1 (bF q1 (bF (!zS true q2 || DB.db q3) (bF q1 (bF (!zM (cI z) (lZ s) || zS true q2) (bF q4 (bF q4 (bF (!zS true q5 || DB.db q3) (bF q4 (bF ((!bif zM (cI z) (lZ s) then leB (48 : Int) q6 else false) || zS true q5) (zZ (bif bif zM (cI z) (lZ s) then leB (48 : Int) q6 else false then leB q6 (57 : Int) else false)
 (bF (dK ((cI z) + iO)) (∃ (z' : Nat), (((z' ≤ lN s ∧ ∀ (i : Nat), i < z' → Zd (gD s i (0 : UInt8)) = true) ∧ lN s - z' < lN s - z) ∧ s = s ∧ kI ∧ (cI z) + iO = (cI z')) ∧ True)) (bF q7 (bF (!zS true (zM iO (cI z)) || DB.db (iZ ≤ iZ ∧ iZ < (lZ s))) (bF q7 (bF (!zM iO (cI z) || zS true (zM iO (cI z))) (zZ (bif zM iO (cI z) then (cI (UInt8.toNat (gD s 0 (0 : UInt8)))) == (48 :
 Int) else false) (kI ∧ iZ = vy s) (kI ∧ (cI z) = vy s)))))))))))))))) := by
 delta bF dK cI kI lZ lN gD iZ iO
 dsimp only
 intro hb
 simp only [sS, dS, xJ]
 have dg2 : ∀ c : UInt8, (leB 48 (c.toNat : Int) && leB (c.toNat : Int) 57) = Zd c := fun c => by rw [Bool.eq_iff_iff, Bool.and_eq_true, z8, z8, Yu]; omega
 simp only [Bool.and_assoc, dg2]
 refine ⟨⟨0, ⟨Nat.zero_le _, fun i hi => absurd hi (Nat.not_lt_zero _)⟩, rfl⟩, fun z ⟨z1, z3⟩ => ⟨fun h => ?_, fun h => ?_, zY.2 ⟨fun c => ?_, fun c => ⟨fun h => ?_, ?_⟩⟩⟩⟩
 ·have := (zq _ _).1 h; exact ⟨by omega, by omega⟩
 ·rw [Bool.and_eq_true] at h; have := (zq _ _).1 h.1; exact ⟨by omega, by omega⟩
 ·rw [Bool.and_eq_true] at c
  have c1 := (zq _ _).1 c.1
  refine ⟨⟨by omega, by omega⟩, z + 1, ⟨⟨by omega, fun i hi => ?_⟩, by omega⟩, by omega⟩
  by_cases e : i = z
  ·rw [e]; exact c.2
  ·exact z3 i (by omega)
 ·have := (zq _ _).1 h; exact ⟨by omega, by omega⟩
 ·have h3 : z = s.length ∨ Zd (s.getD z 0) = false := by
   by_cases q1 : z = s.length
   ·exact .inl q1
   ·rw [(zq _ _).2 (show (z : Int) < (s.length : Int) by omega), Bool.true_and] at c
    exact .inr c
  have ht := oQ z1 z3 h3
  have hl : (Wz s).length = z := by rw [ht, List.length_take]; omega
  have e1 : (zM 1 (z : Int) && ((s.getD 0 0).toNat : Int) == 48) = (Nat.blt 1 z && s.getD 0 0 == 48) := by
   rw [show (((s.getD 0 0).toNat : Int) == 48) = (s.getD 0 0 == 48) from Vf (s.getD 0 0) 48 (by decide), show zM 1 (z : Int) = Nat.blt 1 z from by rw [Bool.eq_iff_iff, zq, Zx]; omega]
  rw [e1]
  unfold vy
  rw [hl]
  refine zY.2 ⟨fun k => ?_, fun k => ?_⟩
  ·rw [k]; rfl
  ·rw [k]; rfl
theorem J0 (s : List UInt8) (hl : s.length ≤ 9223372036854775807) : zv Tryz.prog [] 130 [.str s] (.i (vy s)) :=
 zW (T := T0) (an := jD s) mixed zr (Eq.mp (by kernel_rfl) (kB s hl))
theorem HP : zQ Tryz.prog [] 130 Qm := by
 intro xs ps r h hp
 unfold Qm at h
 split at h
 ·skip
  rename_i s
  cases h
  obtain ⟨q0, -⟩ := ZT hp
  exact weaken (ys := [.str s]) ⟨zV _, trivial⟩ (J0 s q0)
 ·cases h
noncomputable def GC : Tb := (T0.plus 224 rK).body Tryz.prog [(188, .auto)]
theorem Qd : zz Tryz.prog GC := zz.body mixed (zz.plus zr N7) _
theorem Km (s : zj) (hl : s.length ≤ 9223372036854775807) :
 zB [AV.str s, AV.str [(47 : UInt8)]] → zZ (leB iZ (Lib.indexByte s (47 : UInt8))) (bF (DB.db (iZ ≤ Lib.indexByte s (47 : UInt8) ∧ Lib.indexByte s (47 : UInt8) ≤ (lZ s))) (bF (dK (Lib.indexByte s (47 : UInt8) + (↑1 : Int))) (bF (DB.db (iZ ≤ Lib.indexByte s (47 : UInt8) + (↑1 : Int) ∧ Lib.indexByte s (47 : UInt8) + (↑1 : Int) ≤ (lZ s))) (3 = lN [AV.junk, AV.junk, AV.junk] ∧ ((True ∧ List.take (Int.toNat (Lib.indexByte s (47 : UInt8))) s = zm s) ∧ List.drop (Int.toNat (Lib.indexByte s (47 : UInt8) +
 (↑1 : Int))) s = z6 s) ∧ true = zg s)))) (3 = lN [AV.junk, AV.junk, AV.junk] ∧ ((True ∧ s = zm s) ∧ bA #[] = z6 s) ∧ false = zg s) := by
 delta bF dK bA lZ lN iZ
 intro hb
 simp only [sS, dS, xJ]
 obtain ⟨h1, h2⟩ := SI 47 s
 refine ⟨fun h => ?_, fun h => ?_⟩
 ·obtain ⟨z, e, z1, z2, z3⟩ := h1 h
  obtain ⟨c1, c2, c3⟩ := Ix z1 z2 z3
  rw [e, c1, c2, c3, show ((z : Int)).toNat = z from rfl, show ((z : Int) + 1).toNat = z + 1 by omega]
  exact ⟨⟨by omega, by omega⟩, ⟨by omega, by omega⟩, ⟨by omega, by omega⟩, rfl, ⟨rfl, rfl⟩, rfl⟩
 ·obtain ⟨c1, c2, c3⟩ := lD (h2 h)
  rw [c1, c2, c3]
  exact ⟨rfl, ⟨rfl, rfl⟩, rfl⟩
def rL : List AV → Option (List zN × AV)
 | [.str s, .str p] => some ([.b (p == [47]), .p (s.length ≤ 9223372036854775807)], .tup 3 (zw [.str (zm s), .str (z6 s), .b (zg s)]))
 | _ => none
theorem J3 : zQ Tryz.prog [] 128 rL := by
 intro xs ps r h hp
 unfold rL at h
 split at h
 ·rename_i s p
  cases h
  have q : (p == [47]) = true := hp _ List.mem_cons_self
  have q1 : s.length ≤ 9223372036854775807 := hp _ (List.mem_cons_of_mem _ List.mem_cons_self)
  obtain rfl := eq_of_beq q
  exact zW mixed Qd (Eq.mp (by kernel_rfl) (Km s q1) : vP Tryz.prog GC 128 (.auto) [.str s, .str [47]] (.tup 3 (zw [.str (zm s), .str (z6 s), .b (zg s)])))
 ·cases h
theorem Ll (t : zj) : Zy t = (Z6 (zp t) && !(zJ t && zp t == [48])) := by
 match t with
 | [] => rfl
 | c :: r =>
  by_cases hc : c = 45
  ·subst hc
   rfl
  ·have hm : zJ (c :: r) = false := beq_eq_false_iff_ne.2 hc
   obtain ⟨h1, _, _⟩ := W8 (a := c :: r) fun h => hc h.2
   rw [h1, hm, ← rF hm, Bool.false_and, Bool.not_false, Bool.and_true]
noncomputable def EX : Tb := ((T0.plus 128 rL).plus 129 (Yq fun s => .tup 2 (zw [.str (zp s), .b (zJ s)]))).plus 130 Qm
theorem NV : zz Tryz.prog EX := zz.plus (zz.plus (zz.plus zr J3) pN) HP
def Pg : List AV → Option (List zN × AV)
 | [.str a] => some ([.p (a.length ≤ 9223372036854775807)], .tup 2 (zw [.agg 2 (zw [.str (bif ZO a then zm a else []), .str (bif ZO a then (bif zg a then z6 a else [49]) else [])]), .b (ZO a)]))
 | _ => none
theorem kR (a : List UInt8) (hl : a.length ≤ 9223372036854775807) :
 let q1 := (!zS false (vy (zp (zm a)) == iZ) || zS false (vy (zp (zm a)) == iZ)); let q3 := (bif vy (zp (zm a)) == iZ then true else zM (vy (zp (zm a))) (lZ (zp (zm a)))); let q2 := (!zS false q3 || zS false q3); let q4 := (ByteArray.data (ByteArray.mk #[(48 : UInt8)])); let q5 := (j2 ∧ (True ∧ 2 = 2 ∧ (bA #[] = bif ZO a then zm a else []) ∧ bA #[] = bif ZO a then bif zg a then z6 a else [(49 :
 UInt8)] else []) ∧ false = ZO a); let q6 := (zm a = bif ZO a then zm a else []); let q7 := (ByteArray.data (ByteArray.mk #[(49 : UInt8)])); let q8 := (!zS false (vy (z6 a) == iZ) || zS false (vy (z6 a) == iZ)); let q9 := (bif vy (z6 a) == iZ then true else zM (vy (z6 a)) (lZ (z6 a))); let q10 := (bif bif vy (z6 a) == iZ then true else zM (vy (z6 a)) (lZ (z6 a)) then true else z6 a == Array.toList q4); zB [AV.str a] → lN a ≤ nX ∧ lN (zp (zm a)) ≤
 nX ∧ bF q1 (bF q1 (bF q1 (bF (!!vy (zp (zm a)) == iZ || zS false (vy (zp (zm a)) == iZ)) (bF q2 (bF (!(zS false q3 && zS true (zJ (zm a))) || zS false q3 && zS true (zJ (zm a))) (bF q2 (bF (!zS false q3 || (!zJ (zm a) || zS false q3 && zS true (zJ (zm a)))) (bF ((!!bif vy (zp (zm a)) == iZ then true else zM (vy (zp (zm a))) (lZ (zp (zm a)))) || zS false q3) (zZ (bif bif vy (zp (zm a)) == iZ then true else zM (vy (zp (zm a)))
 (lZ (zp (zm a))) then true else bif zJ (zm a) then zp (zm a) == Array.toList q4 else false) q5 (zZ (!zg a) (j2 ∧ (True ∧ 2 = 2 ∧ q6 ∧ Array.toList q7 = bif ZO a then bif zg a then z6 a else [(49 : UInt8)] else []) ∧ true = ZO a) (lN (z6 a) ≤ nX ∧ bF q8 (bF q8 (bF q8 (bF (!!vy (z6 a) == iZ || zS false (vy (z6 a) == iZ)) (bF (!zS false q9 || zS false q9) (bF ((!!bif vy (z6 a) == iZ then true else zM (vy (z6 a)) (cI (List.length
 (z6 a)))) || zS false q9) (bF (!zS false q10 || zS false q10) (bF ((!!bif bif vy (z6 a) == iZ then true else zM (vy (z6 a)) (lZ (z6 a)) then true else z6 a == Array.toList q4) || zS false q10) (zZ (bif bif bif vy (z6 a) == iZ then true else zM (vy (z6 a)) (lZ (z6 a)) then true else z6 a == Array.toList q4 then true else z6 a == Array.toList q7) q5 (j2 ∧ (True ∧ 2 = 2 ∧ q6 ∧ z6 a = bif ZO a then bif zg a then z6 a else [(49 : UInt8)] else []) ∧ true =
 ZO a)))))))))))))))))))) := by
 delta bF bA nX cI j2 lZ lN iZ
 dsimp only
 intro hb
 simp only [sS, dS, xJ, lp]
 have hF : ZO a = (Zy (zm a) && (!zg a || Z6 (z6 a) && !(z6 a == [48]) && !(z6 a == [49]))) := rfl
 rw [Ll] at hF
 have l1 := Vq a
 have l2 := qc a
 have l3 := tL (zm a)
 generalize Z6 (zp (zm a)) = p1 at *
 generalize (zJ (zm a)) = p2 at *
 generalize (zp (zm a) == [48]) = p3 at *
 refine ⟨hl, by omega, ?_⟩
 refine Tq (by cases p1 <;> cases p2 <;> rfl) ?_
 refine zY.2 ⟨fun c => ?_, fun c => zY.2 ⟨fun c2 => ?_, fun c2 => ⟨by omega, zY.2 ⟨fun c3 => ?_, fun c3 => ?_⟩⟩⟩⟩
 ·have e : ZO a = false := by
   rw [hF]
   revert c
   cases p1 <;> cases p2 <;> cases p3 <;> simp
  rw [e]
  exact ⟨rfl, ⟨rfl, rfl⟩, rfl⟩
 ·have hs : zg a = false := by simpa using c2
  have e : ZO a = true := by
   rw [hF, hs]
   revert c
   cases p1 <;> cases p2 <;> cases p3 <;> simp
  rw [e, hs]
  exact ⟨rfl, ⟨rfl, rfl⟩, rfl⟩
 ·have hs : zg a = true := by simpa using c2
  have e : ZO a = false := by
   rw [hF, hs]
   revert c3
   cases Z6 (z6 a) <;> cases z6 a == [48] <;> cases z6 a == [49] <;> simp
  rw [e]
  exact ⟨rfl, ⟨rfl, rfl⟩, rfl⟩
 ·have hs : zg a = true := by simpa using c2
  have e : ZO a = true := by
   rw [hF, hs]
   revert c c3
   cases Z6 (z6 a) <;> cases z6 a == [48] <;> cases z6 a == [49] <;> cases p1 <;> cases p2 <;> cases p3 <;> simp
  rw [e, hs]
  exact ⟨rfl, ⟨rfl, rfl⟩, rfl⟩
theorem IT (a : List UInt8) (hl : a.length ≤ 9223372036854775807) : zv Tryz.prog [] 82 [.str a] (.tup 2 (zw [.agg 2 (zw [.str (bif ZO a then zm a else []), .str (bif ZO a then (bif zg a then z6 a else [49]) else [])]), .b (ZO a)])) :=
 zW (T := EX) (an := .auto) mixed NV (Eq.mp (by kernel_rfl) (kR a hl))
theorem IC : zQ Tryz.prog [] 82 Pg := by
 intro xs ps r h hp
 unfold Pg at h
 split at h
 ·skip
  rename_i a
  cases h
  obtain ⟨q0, -⟩ := ZT hp
  exact weaken (ys := [.str a]) ⟨zV _, trivial⟩ (IT a q0)
 ·cases h
end Go.Te
