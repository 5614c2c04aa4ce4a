/- rational: digits, cut. -/
import Derived.Test.YtinnclmkhedgeaaGreatDoorTfE
set_option linter.unusedSimpArgs false
set_option linter.unusedVariables false
namespace Go.Te
open Go Go.Sx Go.Proofs Go.Ar
set_option maxRecDepth 100000
set_option maxHeartbeats 4000000
def xU (s : zK) : Int := bif Nat.blt 1 (YD s).length && s.getD 0 0 == 48 then 0 else ((YD s).length : Int)
theorem VD (c : UInt8) : ∀ s : zK, (0 ≤ Lib.indexByte s c → ∃ z : Nat, Lib.indexByte s c = z ∧ z < s.length ∧ (∀ i, i < z → s.getD i 0 ≠ c) ∧ s.getD z 0 = c) ∧ (Lib.indexByte s c < 0 → ∀ i, i < s.length → s.getD i 0 ≠ c)
 | [] => ⟨fun h => by simp [Lib.indexByte] at h, fun _ i hi => absurd hi (Nat.not_lt_zero _)⟩
 | x :: s => by
  obtain ⟨h1, h2⟩ := VD c s
  unfold Lib.indexByte
  have ge := Lib.indexByte_ge s c
  by_cases hx : x = c
  ·subst hx
   simp only [if_true, beq_self_eq_true, ↓reduceIte]
   exact ⟨fun _ => ⟨0, rfl, by simp, fun i hi => absurd hi (Nat.not_lt_zero _), rfl⟩, fun h => absurd h (by decide)⟩
  ·have hx' : (x == c) = false := beq_eq_false_iff_ne.2 hx
   simp only [hx', hx, if_false, Bool.false_eq_true, ↓reduceIte]
   refine ⟨fun h => ?_, fun h => ?_⟩
   ·split at h
    ·exact absurd h (by decide)
    ·rename_i hn
     have hne : Lib.indexByte s c ≠ -1 := by simpa using hn
     obtain ⟨z, e, h3, h4, h5⟩ := h1 (by omega)
     refine ⟨z + 1, ?_, by simp; omega, fun i hi => ?_, h5⟩
     ·rw [if_neg hn, e]; omega
     ·match i with
      | 0 => exact hx
      | i + 1 => exact h4 i (by omega)
   ·split at h
    ·rename_i hn
     intro i hi
     match i with
     | 0 => exact hx
     | i + 1 =>
      have heq : Lib.indexByte s c = -1 := by simpa using hn
      exact h2 (by omega) i (by simpa using hi)
    ·rename_i hn
     have hne : Lib.indexByte s c ≠ -1 := by simpa using hn
     omega
theorem SG (s : zK) : (xU s == 0 || z7 (xU s) (s.length : Int)) = !Zt s := by
 have hsp := congrArg List.length (wi s)
 rw [List.length_append, List.length_drop] at hsp
 cases hd : Zt s with
 | true =>
  obtain ⟨d1, d2, d3⟩ := ZT.1 hd
  have ht := v7 hd
  have e : xU s = (s.length : Int) := by
   unfold xU
   rw [ht]
   cases hb : Nat.blt 1 s.length with
   | false => rfl
   | true =>
    rw [beq_eq_false_iff_ne.2 (d3 ((zF _ _).1 hb))]
    rfl
  rw [e, beq_eq_false_iff_ne.2 (by omega), show z7 (s.length : Int) (s.length : Int) = false from Bool.eq_false_iff.2 fun e => by have := (zm _ _).1 e; omega]
  rfl
 | false =>
  show _ = true
  unfold xU
  cases hb : Nat.blt 1 (YD s).length && s.getD 0 0 == 48 with
  | true => rfl
  | false =>
   simp only [cond_false]
   by_cases h0 : (YD s).length = 0
   ·rw [h0]; rfl
   by_cases hl : (YD s).length < s.length
   ·rw [(zm _ _).2 (by omega), Bool.or_true]
   refine absurd hd ?_
   have ht : YD s = s := by
    have := wi s
    rw [List.drop_of_length_le (by omega), List.append_nil] at this
    exact this
   rw [ht] at hb h0
   have : Zt s = true := ZT.2 ⟨by omega, fun c hc => ri s c (by rw [ht]; exact hc), fun h1 e => by
    rw [(zF _ _).2 h1, e] at hb
    cases hb⟩
   rw [this]
   decide
def RL (s : zK) : Z6 :=
 .two .auto (.two .auto (.two (.one (.loop Nat (fun σ z => [(0, σ.tm 0), (3, .i (z : Int))]) (fun σ z => []) 0 (fun σ z => z ≤ s.length ∧ ∀ i, i < z → Zx (s.getD i 0) = true) (fun σ z => s.length - z) .auto)) .auto))
def tq : List AV → Option (List zN × AV)
 | [.str s] => some ([.p (s.length ≤ 9223372036854775807)], .i (xU s))
 | _ => none
theorem qV (s : List UInt8) (hl : s.length ≤ 9223372036854775807) :
 ZY [AV.str s] → (∃ (z : Nat), ((z ≤ lN s ∧ ∀ (i : Nat), i < z → Zx (gD s i (0 : UInt8)) = true) ∧ s = s ∧ kI ∧ iZ = (cI z)) ∧ True) ∧ ∀ (z : Nat), let q2 := (z7 (cI z) (lZ s)); let q1 := (!zq true q2 || zq true q2); let q3 := (iZ ≤ (cI z) ∧ (cI z) < (lZ s)); let q6 := (cI (UInt8.toNat (gD s (Int.toNat (↑z : Int)) (0 : UInt8)))); let q5 := (bif z7 (cI z) (lZ s) then leB (48 : Int) q6 else false); let q4 := (!zq true q5 || zq true q5); let q7 := (!zq
 true (z7 iO (cI z)) || zq true (z7 iO (cI z))); (z ≤ lN s ∧ ∀ (i : Nat), i < z → Zx (gD s i (0 : UInt8)) = true) → bF q1 (bF q1 (bF (!zq true q2 || DB.db q3) (bF q1 (bF (!z7 (cI z) (lZ s) || zq true q2) (bF q4 (bF q4 (bF (!zq true q5 || DB.db q3) (bF q4 (bF ((!bif z7 (cI z) (lZ s) then leB (48 : Int) q6 else false) || zq true q5) (zv (bif bif z7 (cI z) (lZ s) then leB (48 : Int) q6 else false then leB q6 (57 : Int) else false)
 (bF (dK ((cI z) + iO)) (∃ (z' : Nat), (((z' ≤ lN s ∧ ∀ (i : Nat), i < z' → Zx (gD s i (0 : UInt8)) = true) ∧ lN s - z' < lN s - z) ∧ s = s ∧ kI ∧ (cI z) + iO = (cI z')) ∧ True)) (bF q7 (bF (!zq true (z7 iO (cI z)) || DB.db (iZ ≤ iZ ∧ iZ < (lZ s))) (bF q7 (bF (!z7 iO (cI z) || zq true (z7 iO (cI z))) (zv (bif z7 iO (cI z) then (cI (UInt8.toNat (gD s 0 (0 : UInt8)))) == (48 :
 Int) else false) (kI ∧ iZ = xU s) (kI ∧ (cI z) = xU s)))))))))))))))) := by
 delta bF dK cI kI lZ lN gD iZ iO
 dsimp only
 intro hb
 simp only [sS, dS, xI]
 have dg2 : ∀ c : UInt8, (leB 48 (c.toNat : Int) && leB (c.toNat : Int) 57) = Zx c := fun c => by rw [Bool.eq_iff_iff, Bool.and_eq_true, Zy, Zy, yY]; omega
 simp only [Bool.and_assoc, dg2]
 refine ⟨⟨0, ⟨Nat.zero_le _, fun i hi => absurd hi (Nat.not_lt_zero _)⟩, rfl⟩, fun z ⟨z1, z3⟩ => ⟨fun h => ?_, fun h => ?_, zr.2 ⟨fun c => ?_, fun c => ⟨fun h => ?_, ?_⟩⟩⟩⟩
 ·have := (zm _ _).1 h; exact ⟨by omega, by omega⟩
 ·rw [Bool.and_eq_true] at h; have := (zm _ _).1 h.1; exact ⟨by omega, by omega⟩
 ·rw [Bool.and_eq_true] at c
  have c1 := (zm _ _).1 c.1
  refine ⟨⟨by omega, by omega⟩, z + 1, ⟨⟨by omega, fun i hi => ?_⟩, by omega⟩, by omega⟩
  by_cases e : i = z
  ·rw [e]; exact c.2
  ·exact z3 i (by omega)
 ·have := (zm _ _).1 h; exact ⟨by omega, by omega⟩
 ·have h3 : z = s.length ∨ Zx (s.getD z 0) = false := by
   by_cases q1 : z = s.length
   ·exact .inl q1
   ·rw [(zm _ _).2 (show (z : Int) < (s.length : Int) by omega), Bool.true_and] at c
    exact .inr c
  have ht := Tw z1 z3 h3
  have hl : (YD s).length = z := by rw [ht, List.length_take]; omega
  have e1 : (z7 1 (z : Int) && ((s.getD 0 0).toNat : Int) == 48) = (Nat.blt 1 z && s.getD 0 0 == 48) := by
   rw [show (((s.getD 0 0).toNat : Int) == 48) = (s.getD 0 0 == 48) from Xo (s.getD 0 0) 48 (by decide), show z7 1 (z : Int) = Nat.blt 1 z from by rw [Bool.eq_iff_iff, zm, zF]; omega]
  rw [e1]
  unfold xU
  rw [hl]
  refine zr.2 ⟨fun k => ?_, fun k => ?_⟩
  ·rw [k]; rfl
  ·rw [k]; rfl
theorem Q4 (s : List UInt8) (hl : s.length ≤ 9223372036854775807) : zu Tryz.prog [] 164 [.str s] (.i (xU s)) :=
 zW (T := T0) (an := RL s) mixed zO (Eq.mp (by kernel_rfl) (qV s hl))
theorem Qp : zP Tryz.prog [] 164 tq := by
 intro xs ps r h hp
 unfold tq at h
 split at h
 ·skip
  rename_i s
  cases h
  obtain ⟨q0, -⟩ := Zs hp
  exact weaken (ys := [.str s]) ⟨zw _, trivial⟩ (Q4 s q0)
 ·cases h
noncomputable def P0 : Tb := (T0.plus 271 V5).body Tryz.prog [(224, .auto)]
theorem UQ : zz Tryz.prog P0 := zz.body mixed (zz.plus zO sB) _
theorem qu (s : zK) (hl : s.length ≤ 9223372036854775807) :
 ZY [AV.str s, AV.str [(47 : UInt8)]] → zv (leB iZ (Lib.indexByte s (47 : UInt8))) (bF (DB.db (iZ ≤ Lib.indexByte s (47 : UInt8) ∧ Lib.indexByte s (47 : UInt8) ≤ (lZ s))) (bF (dK (Lib.indexByte s (47 : UInt8) + (↑1 : Int))) (bF (DB.db (iZ ≤ Lib.indexByte s (47 : UInt8) + (↑1 : Int) ∧ Lib.indexByte s (47 : UInt8) + (↑1 : Int) ≤ (lZ s))) (3 = lN [AV.junk, AV.junk, AV.junk] ∧ ((True ∧ List.take (Int.toNat (Lib.indexByte s (47 : UInt8))) s = zR s) ∧ List.drop (Int.toNat (Lib.indexByte s (47 : UInt8) +
 (↑1 : Int))) s = zi s) ∧ true = zT s)))) (3 = lN [AV.junk, AV.junk, AV.junk] ∧ ((True ∧ s = zR s) ∧ bA #[] = zi s) ∧ false = zT s) := by
 delta bF dK bA lZ lN iZ
 intro hb
 simp only [sS, dS, xI]
 obtain ⟨h1, h2⟩ := VD 47 s
 refine ⟨fun h => ?_, fun h => ?_⟩
 ·obtain ⟨z, e, z1, z2, z3⟩ := h1 h
  obtain ⟨c1, c2, c3⟩ := pn z1 z2 z3
  rw [e, c1, c2, c3, show ((z : Int)).toNat = z from rfl, show ((z : Int) + 1).toNat = z + 1 by omega]
  exact ⟨⟨by omega, by omega⟩, ⟨by omega, by omega⟩, ⟨by omega, by omega⟩, rfl, ⟨rfl, rfl⟩, rfl⟩
 ·obtain ⟨c1, c2, c3⟩ := sF (h2 h)
  rw [c1, c2, c3]
  exact ⟨rfl, ⟨rfl, rfl⟩, rfl⟩
def Vv : List AV → Option (List zN × AV)
 | [.str s, .str p] => some ([.b (p == [47]), .p (s.length ≤ 9223372036854775807)], .tup 3 (zY [.str (zR s), .str (zi s), .b (zT s)]))
 | _ => none
theorem pW : zP Tryz.prog [] 163 Vv := by
 intro xs ps r h hp
 unfold Vv at h
 split at h
 ·rename_i s p
  cases h
  have q : (p == [47]) = true := hp _ List.mem_cons_self
  have q1 : s.length ≤ 9223372036854775807 := hp _ (List.mem_cons_of_mem _ List.mem_cons_self)
  obtain rfl := eq_of_beq q
  exact zW mixed UQ (Eq.mp (by kernel_rfl) (qu s q1) : W3 Tryz.prog P0 163 (.auto) [.str s, .str [47]] (.tup 3 (zY [.str (zR s), .str (zi s), .b (zT s)])))
 ·cases h
theorem Sq (t : zK) : Zw t = (Zt (zU t) && !(zE t && zU t == [48])) := by
 match t with
 | [] => rfl
 | c :: r =>
  by_cases hc : c = 45
  ·subst hc
   rfl
  ·have hm : zE (c :: r) = false := beq_eq_false_iff_ne.2 hc
   obtain ⟨h1, _, _⟩ := xJ (a := c :: r) fun h => hc h.2
   rw [h1, hm, ← U9 hm, Bool.false_and, Bool.not_false, Bool.and_true]
noncomputable def oM : Tb := ((T0.plus 163 Vv).plus 144 (YV fun s => .tup 2 (zY [.str (zU s), .b (zE s)]))).plus 164 tq
theorem TO : zz Tryz.prog oM := zz.plus (zz.plus (zz.plus zO pW) Qq) Qp
def tu : List AV → Option (List zN × AV)
 | [.str a] => some ([.p (a.length ≤ 9223372036854775807)], .tup 2 (zY [.agg 2 (zY [.str (bif Zz a then zR a else []), .str (bif Zz a then (bif zT a then zi a else [49]) else [])]), .b (Zz a)]))
 | _ => none
theorem qj (a : List UInt8) (hl : a.length ≤ 9223372036854775807) :
 let q1 := (!zq false (xU (zU (zR a)) == iZ) || zq false (xU (zU (zR a)) == iZ)); let q3 := (bif xU (zU (zR a)) == iZ then true else z7 (xU (zU (zR a))) (lZ (zU (zR a)))); let q2 := (!zq false q3 || zq false q3); let q4 := (ByteArray.data (ByteArray.mk #[(48 : UInt8)])); let q5 := (j2 ∧ (True ∧ 2 = 2 ∧ (bA #[] = bif Zz a then zR a else []) ∧ bA #[] = bif Zz a then bif zT a then zi a else [(49 :
 UInt8)] else []) ∧ false = Zz a); let q6 := (zR a = bif Zz a then zR a else []); let q7 := (ByteArray.data (ByteArray.mk #[(49 : UInt8)])); let q8 := (!zq false (xU (zi a) == iZ) || zq false (xU (zi a) == iZ)); let q9 := (bif xU (zi a) == iZ then true else z7 (xU (zi a)) (lZ (zi a))); let q10 := (bif bif xU (zi a) == iZ then true else z7 (xU (zi a)) (lZ (zi a)) then true else zi a == Array.toList q4); ZY [AV.str a] → lN a ≤ nX ∧ lN (zU (zR a)) ≤
 nX ∧ bF q1 (bF q1 (bF q1 (bF (!!xU (zU (zR a)) == iZ || zq false (xU (zU (zR a)) == iZ)) (bF q2 (bF (!(zq false q3 && zq true (zE (zR a))) || zq false q3 && zq true (zE (zR a))) (bF q2 (bF (!zq false q3 || (!zE (zR a) || zq false q3 && zq true (zE (zR a)))) (bF ((!!bif xU (zU (zR a)) == iZ then true else z7 (xU (zU (zR a))) (lZ (zU (zR a)))) || zq false q3) (zv (bif bif xU (zU (zR a)) == iZ then true else z7 (xU (zU (zR a)))
 (lZ (zU (zR a))) then true else bif zE (zR a) then zU (zR a) == Array.toList q4 else false) q5 (zv (!zT a) (j2 ∧ (True ∧ 2 = 2 ∧ q6 ∧ Array.toList q7 = bif Zz a then bif zT a then zi a else [(49 : UInt8)] else []) ∧ true = Zz a) (lN (zi a) ≤ nX ∧ bF q8 (bF q8 (bF q8 (bF (!!xU (zi a) == iZ || zq false (xU (zi a) == iZ)) (bF (!zq false q9 || zq false q9) (bF ((!!bif xU (zi a) == iZ then true else z7 (xU (zi a)) (cI (List.length
 (zi a)))) || zq false q9) (bF (!zq false q10 || zq false q10) (bF ((!!bif bif xU (zi a) == iZ then true else z7 (xU (zi a)) (lZ (zi a)) then true else zi a == Array.toList q4) || zq false q10) (zv (bif bif bif xU (zi a) == iZ then true else z7 (xU (zi a)) (lZ (zi a)) then true else zi a == Array.toList q4 then true else zi a == Array.toList q7) q5 (j2 ∧ (True ∧ 2 = 2 ∧ q6 ∧ zi a = bif Zz a then bif zT a then zi a else [(49 : UInt8)] else []) ∧ true =
 Zz a)))))))))))))))))))) := by
 delta bF bA nX cI j2 lZ lN iZ
 dsimp only
 intro hb
 simp only [sS, dS, xI, SG]
 have hF : Zz a = (Zw (zR a) && (!zT a || Zt (zi a) && !(zi a == [48]) && !(zi a == [49]))) := rfl
 rw [Sq] at hF
 have l1 := rT a
 have l2 := Ux a
 have l3 := XV (zR a)
 generalize Zt (zU (zR a)) = p1 at *
 generalize (zE (zR a)) = p2 at *
 generalize (zU (zR a) == [48]) = p3 at *
 refine ⟨hl, by omega, ?_⟩
 refine vW (by cases p1 <;> cases p2 <;> rfl) ?_
 refine zr.2 ⟨fun c => ?_, fun c => zr.2 ⟨fun c2 => ?_, fun c2 => ⟨by omega, zr.2 ⟨fun c3 => ?_, fun c3 => ?_⟩⟩⟩⟩
 ·have e : Zz a = false := by
   rw [hF]
   revert c
   cases p1 <;> cases p2 <;> cases p3 <;> simp
  rw [e]
  exact ⟨rfl, ⟨rfl, rfl⟩, rfl⟩
 ·have hs : zT a = false := by simpa using c2
  have e : Zz a = true := by
   rw [hF, hs]
   revert c
   cases p1 <;> cases p2 <;> cases p3 <;> simp
  rw [e, hs]
  exact ⟨rfl, ⟨rfl, rfl⟩, rfl⟩
 ·have hs : zT a = true := by simpa using c2
  have e : Zz a = false := by
   rw [hF, hs]
   revert c3
   cases Zt (zi a) <;> cases zi a == [48] <;> cases zi a == [49] <;> simp
  rw [e]
  exact ⟨rfl, ⟨rfl, rfl⟩, rfl⟩
 ·have hs : zT a = true := by simpa using c2
  have e : Zz a = true := by
   rw [hF, hs]
   revert c c3
   cases Zt (zi a) <;> cases zi a == [48] <;> cases zi a == [49] <;> cases p1 <;> cases p2 <;> cases p3 <;> simp
  rw [e, hs]
  exact ⟨rfl, ⟨rfl, rfl⟩, rfl⟩
theorem QH (a : List UInt8) (hl : a.length ≤ 9223372036854775807) : zu Tryz.prog [] 113 [.str a] (.tup 2 (zY [.agg 2 (zY [.str (bif Zz a then zR a else []), .str (bif Zz a then (bif zT a then zi a else [49]) else [])]), .b (Zz a)])) :=
 zW (T := oM) (an := .auto) mixed TO (Eq.mp (by kernel_rfl) (qj a hl))
theorem py : zP Tryz.prog [] 113 tu := by
 intro xs ps r h hp
 unfold tu at h
 split at h
 ·skip
  rename_i a
  cases h
  obtain ⟨q0, -⟩ := Zs hp
  exact weaken (ys := [.str a]) ⟨zw _, trivial⟩ (QH a q0)
 ·cases h
end Go.Te

namespace Go.Te
open Go Go.Sx Go.Proofs Go.Ar
set_option maxRecDepth 100000
set_option maxHeartbeats 4000000
def z6 (a : zK) : zK := bif zT a then zi a else [49]
theorem Pr {a : zK} (h : Zq a = 0) : YB (zR a) = 0 ∧ YB (z6 a) = 0 ∧ zt (zR a) = zV a ∧ zt (z6 a) = (zS a : Int) := by
 obtain ⟨h1, h2, h3, _⟩ := ZP.1 h
 have hi : Zw (zR a) = true := by
  unfold Zz at h1
  rw [Bool.and_eq_true] at h1
  exact h1.1
 refine ⟨Zg.2 ⟨hi, h2⟩, ?_, rfl, ?_⟩
 all_goals
  unfold z6
  cases hs : zT a with
  | false =>
   first
    | (show YB [49] = 0; exact Zg.2 (by decide))
    | (unfold zS; rw [hs]; show zt [49] = ((1 : Nat) : Int); decide)
  | true =>
   unfold Zz at h1
   rw [hs] at h1
   have hd : Zt (zi a) = true := by
    revert h1
    cases Zt (zi a) <;> simp
   obtain ⟨i1, i2⟩ := Wx hd
   first
    | exact Zg.2 ⟨i1, Nat.le_trans (wN _).1 h3⟩
    | (unfold zS; rw [hs]; exact i2)
theorem tB (g : Nat) : (Lib.itoa (g : Int) == [49]) = Nat.beq g 1 := by
 rw [Go.Ar.y8, Bool.eq_iff_iff, beq_iff_eq, Nat.beq_eq]
 constructor
 ·intro h
  have := congrArg zI h
  rw [Zj] at this
  exact this
 ·intro h
  rw [h, zg (by decide)]; rfl
theorem yV {a : zK} (h : zZ a = true) : Zq a = 0 ∧ (zV a).natAbs ≤ 99999999 ∧ zS a ≤ 99999999 ∧ 0 < zS a := by
 obtain ⟨h1, h2, h3, h4⟩ := Yn.1 h
 obtain ⟨g1, g2, g3⟩ := Yq.1 h1
 have hr : Zq a = 0 := by
  unfold zZ at h
  rw [Bool.and_eq_true, Bool.and_eq_true, beq_iff_eq] at h
  exact h.1.1
 have b := XZ g1 (k := 8) h2
 rw [show 10 ^ 8 = 100000000 from by decide] at b
 refine ⟨hr, by rw [UU]; omega, ?_, yK (ZP.1 hr).1⟩
 rw [(XN (a := a)).2]
 cases hs : zT (zU a) with
 | false => show 1 ≤ 99999999; decide
 | true =>
  have b := XZ (g3 hs).1 (k := 8) h3
  rw [show 10 ^ 8 = 100000000 from by decide] at b
  simp only [cond_true]
  omega
theorem Tq {a : zK} (h : Zq a = 0) : (zR a).length ≤ Wa (zV a) + 1 ∧ (z6 a).length = Lib.nDigits (zS a) ∧ a.length ≤ Wa (zV a) + Lib.nDigits (zS a) + 2 := by
 have hf := (ZP.1 h).1
 have hp := yK hf
 have e : a = yL (zV a) (zS a) := (WG hf).symm
 obtain ⟨s1, s2, s3, s4, s5⟩ := Yx (zV a) hp
 rw [← e] at s4 s5
 have l1 := (wN (zR a)).2
 have l3 : (z6 a).length = Lib.nDigits (zS a) := by
  obtain ⟨_, v2, _, v4⟩ := Pr h
  obtain ⟨i1, _⟩ := Zg.1 v2
  have h5 := Ym i1
  rw [v4, Go.Ar.y8] at h5
  rw [← h5, Lib.decDigits_length]
 refine ⟨by omega, l3, ?_⟩
 have : a.length = (yL (zV a) (zS a)).length := congrArg List.length e
 rw [this]
 unfold yL
 rw [List.length_append, YZ]
 have b2 : (bif Nat.beq (zS a) 1 then [] else 47 :: Lib.decDigits (zS a)).length ≤ 1 + Lib.nDigits (zS a) := by
  cases Nat.beq (zS a) 1 with
  | true => simp
  | false => rw [cond_false, List.length_cons, Lib.decDigits_length]; omega
 split <;> omega
theorem Xn {a : zK} (h : zZ a = true) : a.length ≤ 18 ∧ (zR a).length ≤ 9 ∧ (z6 a).length ≤ 8 := by
 obtain ⟨h1, h2, h3, _⟩ := yV h
 obtain ⟨l1, l2, l3⟩ := Tq h1
 have a1 : Wa (zV a) ≤ 8 := Yg (by decide) (Nat.lt_of_le_of_lt h2 (by decide))
 have a2 : Lib.nDigits (zS a) ≤ 8 := (yw (by decide)).2 (Nat.lt_of_le_of_lt h3 (by decide))
 omega
theorem qT {a : zK} (h : Zq a = 0) (hn : (zV a).natAbs ≤ 99999999) (hd : zS a ≤ 99999999) : zZ a = true := by
 obtain ⟨_, o2, _, _, o5, _, _⟩ := yS a
 have hf := (ZP.1 h).1
 have hp := yK hf
 have e : a = yL (zV a) (zS a) := (WG hf).symm
 obtain ⟨s1, s2, s3, s4, s5⟩ := Yx (zV a) hp
 rw [← e] at s4 s5
 have a1 : Wa (zV a) ≤ 8 := Yg (by decide) (Nat.lt_of_le_of_lt hn (by decide))
 have a2 : Lib.nDigits (zS a) ≤ 8 := (yw (by decide)).2 (Nat.lt_of_le_of_lt hd (by decide))
 unfold zZ
 rw [h, Bool.and_eq_true, Bool.and_eq_true, Zy, Zy]
 have q1 : (zR (zU a)).length ≤ 8 := by rw [← o5, s4]; exact a1
 have q2 : (zi (zU a)).length ≤ 8 := by rw [← o2, s5]; split <;> omega
 exact ⟨⟨rfl, by omega⟩, by omega⟩
theorem WN {n : Int} {d : Nat} (hd : 0 < d) (hn : n.natAbs ≤ 99999999) (hd2 : d ≤ 99999999) : zZ (zX n d) = true := by
 obtain ⟨p1, p2, p3, p4⟩ := Ze n hd
 obtain ⟨q1, q2, _⟩ := xN (n := n) hd
 have hnv : ((Nat.gcd n.natAbs d : Nat) : Int) ∣ n := Int.ofNat_dvd_left.2 (Nat.gcd_dvd_left _ _)
 have hn2 : (n / (Nat.gcd n.natAbs d : Int)).natAbs ≤ n.natAbs := by
  rw [← Int.tdiv_eq_ediv_of_dvd hnv]
  exact Int.natAbs_tdiv_le_natAbs n _
 have hd3 : d / Nat.gcd n.natAbs d ≤ d := Nat.div_le_self _ _
 obtain ⟨s1, s2, s3, s4, s5⟩ := Yx (n / (Nat.gcd n.natAbs d : Int)) q2
 have a1 : Wa (n / (Nat.gcd n.natAbs d : Int)) ≤ 8 := Yg (by decide) (Nat.lt_of_le_of_lt hn2 (Nat.lt_of_le_of_lt hn (by decide)))
 have a2 : Lib.nDigits (d / Nat.gcd n.natAbs d) ≤ 8 := (yw (by decide)).2 (by omega)
 refine qT (ZP.2 ⟨p1, ?_, ?_, p4⟩) (by rw [p2]; omega) (by rw [p3]; omega)
 ·show YN (zR (yL _ _)) ≤ 300
  rw [s4]; omega
 ·show (zi (yL _ _)).length ≤ 300
  rw [s5]; split <;> omega
def PH (r : AV) : List AV → Option (List zN × AV) := fun _ => some ([.p False], r)
theorem Ty {P : Program} {G : List (Nat × Obj)} {f : FuncId} (r : AV) : zP P G f (PH r) := by
 intro xs ps r' h hp
 cases h
 exact (hp _ List.mem_cons_self).elim
def WA (a : zK) : Prop := Zq a = 0 ∧ (zZ a = true ∨ zT a = false)
theorem xt {a : zK} (h : zZ a = true) : WA a := ⟨(yV h).1, .inl h⟩
theorem Rn {a : zK} (h : WA a) : a.length ≤ 700 := by
 obtain ⟨_, _, l3⟩ := Tq h.1
 obtain ⟨_, h2, h3, _⟩ := ZP.1 h.1
 have l1 := (wN (zR a)).2
 have l2 := Ux a
 by_cases hs : zT a = true
 ·have := congrArg List.length (xV hs)
  rw [List.length_append, List.length_cons] at this
  omega
 ·have := (Z3 (Bool.eq_false_iff.2 hs)).1
  rw [this] at l1 h2
  omega
def oO : Tb := ((((T0).plus 113 tu).plus 65 Uh).plus 114 (YV fun s => .str (zU s))).plus 102 (PH (.tup 2 (zY [.str [], .i 0])))
theorem TN : zz Tryz.prog oO := zz.plus (zz.plus (zz.plus (zz.plus zO py) Qb) wS) (Ty _)
def V9 : List AV → Option (List zN × AV)
 | [.str a] => some ([.p (WA a)], .tup 2 (zY [.agg 2 (zY [.str (zR a), .str (z6 a)]), .i 0]))
 | _ => none
theorem SA (a : List UInt8) (hr : WA a) :
 let q1 := (True ∧ 2 = 2 ∧ bA #[] = zR a ∧ bA #[] = z6 a); let q3 := (bif Zz a then bif zT a then zi a else [(49 : UInt8)] else []); let q2 := (j2 ∧ (True ∧ 2 = 2 ∧ (bif Zz a then zR a else []) = zR a ∧ q3 = z6 a) ∧ kI ∧ iZ = iZ); let q6 := (lZ (zU (bif Zz a then zR a else []))); let q5 := (z7 (300 : Int) q6); let q4 := (!zq false q5 || zq false q5); ZY [AV.str a] → lN a ≤
 nX ∧ zv (!Zz a) (j2 ∧ q1 ∧ kI ∧ (11 : Int) = iZ) (lN a ≤ nX ∧ zv (zZ a) q2 (bF q4 (bF q4 (bF q4 (bF (!!z7 (300 : Int) q6 || zq false q5) (zv (bif z7 (300 : Int) q6 then true else z7 (300 : Int) (lZ q3)) (j2 ∧ q1 ∧ kI ∧ (4 : Int) = iZ) (zv (q3 == bA #[(49 : UInt8)]) q2 (False ∧ j2 ∧ q1 ∧ kI ∧ (11 :
 Int) = iZ)))))))) := by
 delta bF bA nX kI j2 lZ lN iZ
 dsimp only
 intro hb
 simp only [sS, dS, xI]
 have hl := Rn hr
 obtain ⟨h1, h2⟩ := hr
 obtain ⟨f1, f2, f3, f4⟩ := ZP.1 h1
 have hden : (bif zT a then zi a else [49]) = z6 a := rfl
 obtain ⟨o1, o2, o3, o4, o5, o6, o7⟩ := yS a
 have hlen : (zU (zR a)).length = (zR (zU a)).length := by rw [← (TQ (zR a)).2, o5]
 simp only [f1, cond_true, hden]
 refine ⟨by omega, zr.2 ⟨fun c => by simp at c, fun _ => ⟨by omega, zr.2 ⟨fun k => ⟨rfl, trivial, trivial⟩, fun k => zr.2 ⟨fun k2 => ?_, fun k2 => zr.2 ⟨fun k3 => ⟨rfl, trivial, trivial⟩, fun k3 => ?_⟩⟩⟩⟩⟩⟩
 ·rw [Bool.or_eq_true, zm, zm, hlen] at k2
  rw [o5] at f2
  have : (z6 a).length ≤ 300 := by unfold z6; cases zT a with | true => exact f3 | false => exact (by decide : ([49] : zK).length ≤ 300)
  omega
 ·rw [h2.resolve_left (by rw [k]; decide)] at hden
  rw [← hden] at k3
  cases k3
theorem qM (a : List UInt8) (hr : WA a) : zu Tryz.prog [] 67 [.str a] (.tup 2 (zY [.agg 2 (zY [.str (zR a), .str (z6 a)]), .i 0])) :=
 zW (T := oO) (an := .auto) mixed TN (Eq.mp (by kernel_rfl) (SA a hr))
theorem qS : zP Tryz.prog [] 67 V9 := by
 intro xs ps r h hp
 unfold V9 at h
 split at h
 ·skip
  rename_i a
  cases h
  obtain ⟨q0, -⟩ := Zs hp
  exact weaken (ys := [.str a]) ⟨zw _, trivial⟩ (qM a q0)
 ·cases h
noncomputable def P8 : Tb := T0.plus 67 V9
theorem vH : zz Tryz.prog P8 := zz.plus zO qS
def Xj : List AV → Option (List zN × AV)
 | [.str a] => some ([.p (WA a)], .i 0)
 | _ => none
theorem qf (a : List UInt8) (hr : WA a) :
 ZY [AV.str a] → (Zq a = iZ ∧ (zZ a = true ∨ zT a = false)) ∧ kI ∧ iZ = iZ := by
 delta kI iZ
 intro hb
 simp only [sS, dS]
 exact hr
theorem Qy (a : List UInt8) (hr : WA a) : zu Tryz.prog [] 79 [.str a] (.i 0) :=
 zW (T := P8) (an := .auto) mixed vH (Eq.mp (by kernel_rfl) (qf a hr))
theorem VX : zP Tryz.prog [] 79 Xj := by
 intro xs ps r h hp
 unfold Xj at h
 split at h
 ·skip
  rename_i a
  cases h
  obtain ⟨q0, -⟩ := Zs hp
  exact weaken (ys := [.str a]) ⟨zw _, trivial⟩ (Qy a q0)
 ·cases h
def Xs : List AV → Option (List zN × AV)
 | [.str a] => some ([.p (WA a)], .tup 3 (zY [.str (zR a), .str (z6 a), .i 0]))
 | _ => none
theorem Tl (a : List UInt8) (hr : WA a) :
 ZY [AV.str a] → (Zq a = iZ ∧ (zZ a = true ∨ zT a = false)) ∧ 3 = lN [AV.junk, AV.junk, AV.junk] ∧ ((True ∧ zR a = zR a) ∧ z6 a = z6 a) ∧ kI ∧ iZ = iZ := by
 delta kI lN iZ
 intro hb
 simp only [sS, dS]
 exact ⟨hr, rfl⟩
theorem rz (a : List UInt8) (hr : WA a) : zu Tryz.prog [] 134 [.str a] (.tup 3 (zY [.str (zR a), .str (z6 a), .i 0])) :=
 zW (T := P8) (an := .auto) mixed vH (Eq.mp (by kernel_rfl) (Tl a hr))
theorem uU : zP Tryz.prog [] 134 Xs := by
 intro xs ps r h hp
 unfold Xs at h
 split at h
 ·skip
  rename_i a
  cases h
  obtain ⟨q0, -⟩ := Zs hp
  exact weaken (ys := [.str a]) ⟨zw _, trivial⟩ (rz a q0)
 ·cases h
def Ve : List AV → Option (List zN × AV)
 | [.str a] => some ([.p (zZ a = true)], .tup 2 (zY [.agg 2 (zY [.i (zV a), .i (zS a : Int)]), .b true]))
 | _ => none
theorem rA : zP Tryz.prog [] 65 Ve := by
 intro xs ps r h hp
 unfold Ve at h
 split at h
 ·rename_i a
  cases h
  have q : zZ a = true := hp _ List.mem_cons_self
  have := Ss a (by have := (Xn q).1; omega)
  rw [q] at this
  exact this
 ·cases h
end Go.Te
