/- rational: digits, cut. -/
import Derived.Test.YtinnclmkhedgeaaGreatDoorTfE
set_option linter.unusedSimpArgs false
set_option linter.unusedVariables false
namespace Go.Te
open Go Go.Sx Go.Proofs Go.Ar
set_option maxRecDepth 100000
set_option maxHeartbeats 4000000
def xB (s : zK) : Int := bif Nat.blt 1 (xx s).length && s.getD 0 0 == 48 then 0 else ((xx s).length : Int)
theorem uJ (c : UInt8) : ∀ s : zK, (0 ≤ Lib.indexByte s c → ∃ z : Nat, Lib.indexByte s c = z ∧ z < s.length ∧ (∀ i, i < z → s.getD i 0 ≠ c) ∧ s.getD z 0 = c) ∧ (Lib.indexByte s c < 0 → ∀ i, i < s.length → s.getD i 0 ≠ c)
 | [] => ⟨fun h => by simp [Lib.indexByte] at h, fun _ i hi => absurd hi (Nat.not_lt_zero _)⟩
 | x :: s => by
  obtain ⟨h1, h2⟩ := uJ c s
  unfold Lib.indexByte
  have ge := Lib.indexByte_ge s c
  by_cases hx : x = c
  ·subst hx
   simp only [if_true, beq_self_eq_true, ↓reduceIte]
   exact ⟨fun _ => ⟨0, rfl, by simp, fun i hi => absurd hi (Nat.not_lt_zero _), rfl⟩, fun h => absurd h (by decide)⟩
  ·have hx' : (x == c) = false := beq_eq_false_iff_ne.2 hx
   simp only [hx', hx, if_false, Bool.false_eq_true, ↓reduceIte]
   refine ⟨fun h => ?_, fun h => ?_⟩
   ·split at h
    ·exact absurd h (by decide)
    ·rename_i hn
     have hne : Lib.indexByte s c ≠ -1 := by simpa using hn
     obtain ⟨z, e, h3, h4, h5⟩ := h1 (by omega)
     refine ⟨z + 1, ?_, by simp; omega, fun i hi => ?_, h5⟩
     ·rw [if_neg hn, e]; omega
     ·match i with
      | 0 => exact hx
      | i + 1 => exact h4 i (by omega)
   ·split at h
    ·rename_i hn
     intro i hi
     match i with
     | 0 => exact hx
     | i + 1 =>
      have heq : Lib.indexByte s c = -1 := by simpa using hn
      exact h2 (by omega) i (by simpa using hi)
    ·rename_i hn
     have hne : Lib.indexByte s c ≠ -1 := by simpa using hn
     omega
theorem rM (s : zK) : (xB s == 0 || zA (xB s) (s.length : Int)) = !Zq s := by
 have hsp := congrArg List.length (W7 s)
 rw [List.length_append, List.length_drop] at hsp
 cases hd : Zq s with
 | true =>
  obtain ⟨d1, d2, d3⟩ := ZQ.1 hd
  have ht := uC hd
  have e : xB s = (s.length : Int) := by
   unfold xB
   rw [ht]
   cases hb : Nat.blt 1 s.length with
   | false => rfl
   | true =>
    rw [beq_eq_false_iff_ne.2 (d3 ((zF _ _).1 hb))]
    rfl
  rw [e, beq_eq_false_iff_ne.2 (by omega), show zA (s.length : Int) (s.length : Int) = false from Bool.eq_false_iff.2 fun e => by have := (zl _ _).1 e; omega]
  rfl
 | false =>
  show _ = true
  unfold xB
  cases hb : Nat.blt 1 (xx s).length && s.getD 0 0 == 48 with
  | true => rfl
  | false =>
   simp only [cond_false]
   by_cases h0 : (xx s).length = 0
   ·rw [h0]; rfl
   by_cases hl : (xx s).length < s.length
   ·rw [(zl _ _).2 (by omega), Bool.or_true]
   refine absurd hd ?_
   have ht : xx s = s := by
    have := W7 s
    rw [List.drop_of_length_le (by omega), List.append_nil] at this
    exact this
   rw [ht] at hb h0
   have : Zq s = true := ZQ.2 ⟨by omega, fun c hc => RG s c (by rw [ht]; exact hc), fun h1 e => by
    rw [(zF _ _).2 h1, e] at hb
    cases hb⟩
   rw [this]
   decide
def qc (s : zK) : yw :=
 .two .auto (.two .auto (.two (.one (.loop Nat (fun σ z => [(0, σ.tm 0), (3, .i (z : Int))]) (fun σ z => []) 0 (fun σ z => z ≤ s.length ∧ ∀ i, i < z → Zw (s.getD i 0) = true) (fun σ z => s.length - z) .auto)) .auto))
def tB : List AV → Option (List zO × AV)
 | [.str s] => some ([.p (s.length ≤ 9223372036854775807)], .i (xB s))
 | _ => none
theorem pX (s : List UInt8) (hl : s.length ≤ 9223372036854775807) :
 zb [AV.str s] → (∃ (z : Nat), ((z ≤ lN s ∧ ∀ (i : Nat), i < z → Zw (gD s i (0 : UInt8)) = true) ∧ s = s ∧ kI ∧ iZ = (cI z)) ∧ True) ∧ ∀ (z : Nat), let q2 := (zA (cI z) (lZ s)); let q1 := (!zQ true q2 || zQ true q2); let q3 := (iZ ≤ (cI z) ∧ (cI z) < (lZ s)); let q6 := (cI (UInt8.toNat (gD s (Int.toNat (↑z : Int)) (0 : UInt8)))); let q5 := (bif zA (cI z) (lZ s) then leB (48 : Int) q6 else false); let q4 := (!zQ true q5 || zQ true q5); let q7 := (!zQ
 true (zA iO (cI z)) || zQ true (zA iO (cI z))); (z ≤ lN s ∧ ∀ (i : Nat), i < z → Zw (gD s i (0 : UInt8)) = true) → bF q1 (bF q1 (bF (!zQ true q2 || DB.db q3) (bF q1 (bF (!zA (cI z) (lZ s) || zQ true q2) (bF q4 (bF q4 (bF (!zQ true q5 || DB.db q3) (bF q4 (bF ((!bif zA (cI z) (lZ s) then leB (48 : Int) q6 else false) || zQ true q5) (zV (bif bif zA (cI z) (lZ s) then leB (48 : Int) q6 else false then leB q6 (57 : Int) else false)
 (bF (dK ((cI z) + iO)) (∃ (z' : Nat), (((z' ≤ lN s ∧ ∀ (i : Nat), i < z' → Zw (gD s i (0 : UInt8)) = true) ∧ lN s - z' < lN s - z) ∧ s = s ∧ kI ∧ (cI z) + iO = (cI z')) ∧ True)) (bF q7 (bF (!zQ true (zA iO (cI z)) || DB.db (iZ ≤ iZ ∧ iZ < (lZ s))) (bF q7 (bF (!zA iO (cI z) || zQ true (zA iO (cI z))) (zV (bif zA iO (cI z) then (cI (UInt8.toNat (gD s 0 (0 : UInt8)))) == (48 :
 Int) else false) (kI ∧ iZ = xB s) (kI ∧ (cI z) = xB s)))))))))))))))) := by
 delta bF dK cI kI lZ lN gD iZ iO
 dsimp only
 intro hb
 simp only [sS, dS, xF]
 have dg2 : ∀ c : UInt8, (leB 48 (c.toNat : Int) && leB (c.toNat : Int) 57) = Zw c := fun c => by rw [Bool.eq_iff_iff, Bool.and_eq_true, ZY, ZY, yo]; omega
 simp only [Bool.and_assoc, dg2]
 refine ⟨⟨0, ⟨Nat.zero_le _, fun i hi => absurd hi (Nat.not_lt_zero _)⟩, rfl⟩, fun z ⟨z1, z3⟩ => ⟨fun h => ?_, fun h => ?_, zR.2 ⟨fun c => ?_, fun c => ⟨fun h => ?_, ?_⟩⟩⟩⟩
 ·have := (zl _ _).1 h; exact ⟨by omega, by omega⟩
 ·rw [Bool.and_eq_true] at h; have := (zl _ _).1 h.1; exact ⟨by omega, by omega⟩
 ·rw [Bool.and_eq_true] at c
  have c1 := (zl _ _).1 c.1
  refine ⟨⟨by omega, by omega⟩, z + 1, ⟨⟨by omega, fun i hi => ?_⟩, by omega⟩, by omega⟩
  by_cases e : i = z
  ·rw [e]; exact c.2
  ·exact z3 i (by omega)
 ·have := (zl _ _).1 h; exact ⟨by omega, by omega⟩
 ·have h3 : z = s.length ∨ Zw (s.getD z 0) = false := by
   by_cases q1 : z = s.length
   ·exact .inl q1
   ·rw [(zl _ _).2 (show (z : Int) < (s.length : Int) by omega), Bool.true_and] at c
    exact .inr c
  have ht := sj z1 z3 h3
  have hl : (xx s).length = z := by rw [ht, List.length_take]; omega
  have e1 : (zA 1 (z : Int) && ((s.getD 0 0).toNat : Int) == 48) = (Nat.blt 1 z && s.getD 0 0 == 48) := by
   rw [show (((s.getD 0 0).toNat : Int) == 48) = (s.getD 0 0 == 48) from XA (s.getD 0 0) 48 (by decide), show zA 1 (z : Int) = Nat.blt 1 z from by rw [Bool.eq_iff_iff, zl, zF]; omega]
  rw [e1]
  unfold xB
  rw [hl]
  refine zR.2 ⟨fun k => ?_, fun k => ?_⟩
  ·rw [k]; rfl
  ·rw [k]; rfl
theorem Pj (s : List UInt8) (hl : s.length ≤ 9223372036854775807) : zu Tryz.prog [] 164 [.str s] (.i (xB s)) :=
 zW (T := T0) (an := qc s) mixed zq (Eq.mp (by kernel_rfl) (pX s hl))
theorem PG : zP Tryz.prog [] 164 tB := by
 intro xs ps r h hp
 unfold tB at h
 split at h
 ·skip
  rename_i s
  cases h
  obtain ⟨q0, -⟩ := Zv hp
  exact weaken (ys := [.str s]) ⟨zw _, trivial⟩ (Pj s q0)
 ·cases h
noncomputable def Ou : Tb := (T0.plus 271 uM).body Tryz.prog [(224, .auto)]
theorem tS : zz Tryz.prog Ou := zz.body mixed (zz.plus zq R4) _
theorem QV (s : zK) (hl : s.length ≤ 9223372036854775807) :
 zb [AV.str s, AV.str [(47 : UInt8)]] → zV (leB iZ (Lib.indexByte s (47 : UInt8))) (bF (DB.db (iZ ≤ Lib.indexByte s (47 : UInt8) ∧ Lib.indexByte s (47 : UInt8) ≤ (lZ s))) (bF (dK (Lib.indexByte s (47 : UInt8) + (↑1 : Int))) (bF (DB.db (iZ ≤ Lib.indexByte s (47 : UInt8) + (↑1 : Int) ∧ Lib.indexByte s (47 : UInt8) + (↑1 : Int) ≤ (lZ s))) (3 = lN [AV.junk, AV.junk, AV.junk] ∧ ((True ∧ List.take (Int.toNat (Lib.indexByte s (47 : UInt8))) s = zp s) ∧ List.drop (Int.toNat (Lib.indexByte s (47 : UInt8) +
 (↑1 : Int))) s = zh s) ∧ true = zT s)))) (3 = lN [AV.junk, AV.junk, AV.junk] ∧ ((True ∧ s = zp s) ∧ bA #[] = zh s) ∧ false = zT s) := by
 delta bF dK bA lZ lN iZ
 intro hb
 simp only [sS, dS, xF]
 obtain ⟨h1, h2⟩ := uJ 47 s
 refine ⟨fun h => ?_, fun h => ?_⟩
 ·obtain ⟨z, e, z1, z2, z3⟩ := h1 h
  obtain ⟨c1, c2, c3⟩ := pM z1 z2 z3
  rw [e, c1, c2, c3, show ((z : Int)).toNat = z from rfl, show ((z : Int) + 1).toNat = z + 1 by omega]
  exact ⟨⟨by omega, by omega⟩, ⟨by omega, by omega⟩, ⟨by omega, by omega⟩, rfl, ⟨rfl, rfl⟩, rfl⟩
 ·obtain ⟨c1, c2, c3⟩ := S7 (h2 h)
  rw [c1, c2, c3]
  exact ⟨rfl, ⟨rfl, rfl⟩, rfl⟩
def VE : List AV → Option (List zO × AV)
 | [.str s, .str p] => some ([.b (p == [47]), .p (s.length ≤ 9223372036854775807)], .tup 3 (zX [.str (zp s), .str (zh s), .b (zT s)]))
 | _ => none
theorem PI : zP Tryz.prog [] 163 VE := by
 intro xs ps r h hp
 unfold VE at h
 split at h
 ·rename_i s p
  cases h
  have q : (p == [47]) = true := hp _ List.mem_cons_self
  have q1 : s.length ≤ 9223372036854775807 := hp _ (List.mem_cons_of_mem _ List.mem_cons_self)
  obtain rfl := eq_of_beq q
  exact zW mixed tS (Eq.mp (by kernel_rfl) (QV s q1) : vG Tryz.prog Ou 163 (.auto) [.str s, .str [47]] (.tup 3 (zX [.str (zp s), .str (zh s), .b (zT s)])))
 ·cases h
theorem Rk (t : zK) : ZV t = (Zq (zt t) && !(zE t && zt t == [48])) := by
 match t with
 | [] => rfl
 | c :: r =>
  by_cases hc : c = 45
  ·subst hc
   rfl
  ·have hm : zE (c :: r) = false := beq_eq_false_iff_ne.2 hc
   obtain ⟨h1, _, _⟩ := xH (a := c :: r) fun h => hc h.2
   rw [h1, hm, ← Tk hm, Bool.false_and, Bool.not_false, Bool.and_true]
noncomputable def nP : Tb := ((T0.plus 163 VE).plus 144 (YM fun s => .tup 2 (zX [.str (zt s), .b (zE s)]))).plus 164 tB
theorem sf : zz Tryz.prog nP := zz.plus (zz.plus (zz.plus zq PI) pG) PG
def TI : List AV → Option (List zO × AV)
 | [.str a] => some ([.p (a.length ≤ 9223372036854775807)], .tup 2 (zX [.agg 2 (zX [.str (bif Zy a then zp a else []), .str (bif Zy a then (bif zT a then zh a else [49]) else [])]), .b (Zy a)]))
 | _ => none
theorem qm (a : List UInt8) (hl : a.length ≤ 9223372036854775807) :
 let q1 := (!zQ false (xB (zt (zp a)) == iZ) || zQ false (xB (zt (zp a)) == iZ)); let q3 := (bif xB (zt (zp a)) == iZ then true else zA (xB (zt (zp a))) (lZ (zt (zp a)))); let q2 := (!zQ false q3 || zQ false q3); let q4 := (ByteArray.data (ByteArray.mk #[(48 : UInt8)])); let q5 := (j2 ∧ (True ∧ 2 = 2 ∧ (bA #[] = bif Zy a then zp a else []) ∧ bA #[] = bif Zy a then bif zT a then zh a else [(49 :
 UInt8)] else []) ∧ false = Zy a); let q6 := (zp a = bif Zy a then zp a else []); let q7 := (ByteArray.data (ByteArray.mk #[(49 : UInt8)])); let q8 := (!zQ false (xB (zh a) == iZ) || zQ false (xB (zh a) == iZ)); let q9 := (bif xB (zh a) == iZ then true else zA (xB (zh a)) (lZ (zh a))); let q10 := (bif bif xB (zh a) == iZ then true else zA (xB (zh a)) (lZ (zh a)) then true else zh a == Array.toList q4); zb [AV.str a] → lN a ≤ nX ∧ lN (zt (zp a)) ≤
 nX ∧ bF q1 (bF q1 (bF q1 (bF (!!xB (zt (zp a)) == iZ || zQ false (xB (zt (zp a)) == iZ)) (bF q2 (bF (!(zQ false q3 && zQ true (zE (zp a))) || zQ false q3 && zQ true (zE (zp a))) (bF q2 (bF (!zQ false q3 || (!zE (zp a) || zQ false q3 && zQ true (zE (zp a)))) (bF ((!!bif xB (zt (zp a)) == iZ then true else zA (xB (zt (zp a))) (lZ (zt (zp a)))) || zQ false q3) (zV (bif bif xB (zt (zp a)) == iZ then true else zA (xB (zt (zp a)))
 (lZ (zt (zp a))) then true else bif zE (zp a) then zt (zp a) == Array.toList q4 else false) q5 (zV (!zT a) (j2 ∧ (True ∧ 2 = 2 ∧ q6 ∧ Array.toList q7 = bif Zy a then bif zT a then zh a else [(49 : UInt8)] else []) ∧ true = Zy a) (lN (zh a) ≤ nX ∧ bF q8 (bF q8 (bF q8 (bF (!!xB (zh a) == iZ || zQ false (xB (zh a) == iZ)) (bF (!zQ false q9 || zQ false q9) (bF ((!!bif xB (zh a) == iZ then true else zA (xB (zh a)) (cI (List.length
 (zh a)))) || zQ false q9) (bF (!zQ false q10 || zQ false q10) (bF ((!!bif bif xB (zh a) == iZ then true else zA (xB (zh a)) (lZ (zh a)) then true else zh a == Array.toList q4) || zQ false q10) (zV (bif bif bif xB (zh a) == iZ then true else zA (xB (zh a)) (lZ (zh a)) then true else zh a == Array.toList q4 then true else zh a == Array.toList q7) q5 (j2 ∧ (True ∧ 2 = 2 ∧ q6 ∧ zh a = bif Zy a then bif zT a then zh a else [(49 : UInt8)] else []) ∧ true =
 Zy a)))))))))))))))))))) := by
 delta bF bA nX cI j2 lZ lN iZ
 dsimp only
 intro hb
 simp only [sS, dS, xF, rM]
 have hF : Zy a = (ZV (zp a) && (!zT a || Zq (zh a) && !(zh a == [48]) && !(zh a == [49]))) := rfl
 rw [Rk] at hF
 have l1 := qT a
 have l2 := tw a
 have l3 := XH (zp a)
 generalize Zq (zt (zp a)) = p1 at *
 generalize (zE (zp a)) = p2 at *
 generalize (zt (zp a) == [48]) = p3 at *
 refine ⟨hl, by omega, ?_⟩
 refine vB (by cases p1 <;> cases p2 <;> rfl) ?_
 refine zR.2 ⟨fun c => ?_, fun c => zR.2 ⟨fun c2 => ?_, fun c2 => ⟨by omega, zR.2 ⟨fun c3 => ?_, fun c3 => ?_⟩⟩⟩⟩
 ·have e : Zy a = false := by
   rw [hF]
   revert c
   cases p1 <;> cases p2 <;> cases p3 <;> simp
  rw [e]
  exact ⟨rfl, ⟨rfl, rfl⟩, rfl⟩
 ·have hs : zT a = false := by simpa using c2
  have e : Zy a = true := by
   rw [hF, hs]
   revert c
   cases p1 <;> cases p2 <;> cases p3 <;> simp
  rw [e, hs]
  exact ⟨rfl, ⟨rfl, rfl⟩, rfl⟩
 ·have hs : zT a = true := by simpa using c2
  have e : Zy a = false := by
   rw [hF, hs]
   revert c3
   cases Zq (zh a) <;> cases zh a == [48] <;> cases zh a == [49] <;> simp
  rw [e]
  exact ⟨rfl, ⟨rfl, rfl⟩, rfl⟩
 ·have hs : zT a = true := by simpa using c2
  have e : Zy a = true := by
   rw [hF, hs]
   revert c c3
   cases Zq (zh a) <;> cases zh a == [48] <;> cases zh a == [49] <;> cases p1 <;> cases p2 <;> cases p3 <;> simp
  rw [e, hs]
  exact ⟨rfl, ⟨rfl, rfl⟩, rfl⟩
theorem PX (a : List UInt8) (hl : a.length ≤ 9223372036854775807) : zu Tryz.prog [] 113 [.str a] (.tup 2 (zX [.agg 2 (zX [.str (bif Zy a then zp a else []), .str (bif Zy a then (bif zT a then zh a else [49]) else [])]), .b (Zy a)])) :=
 zW (T := nP) (an := .auto) mixed sf (Eq.mp (by kernel_rfl) (qm a hl))
theorem Pl : zP Tryz.prog [] 113 TI := by
 intro xs ps r h hp
 unfold TI at h
 split at h
 ·skip
  rename_i a
  cases h
  obtain ⟨q0, -⟩ := Zv hp
  exact weaken (ys := [.str a]) ⟨zw _, trivial⟩ (PX a q0)
 ·cases h
end Go.Te

namespace Go.Te
open Go Go.Sx Go.Proofs Go.Ar
set_option maxRecDepth 100000
set_option maxHeartbeats 4000000
def za (a : zK) : zK := bif zT a then zh a else [49]
theorem Oi {a : zK} (h : Zr a = 0) : xW (zp a) = 0 ∧ xW (za a) = 0 ∧ zS (zp a) = zv a ∧ zS (za a) = (zU a : Int) := by
 obtain ⟨h1, h2, h3, _⟩ := Zn.1 h
 have hi : ZV (zp a) = true := by
  unfold Zy at h1
  rw [Bool.and_eq_true] at h1
  exact h1.1
 refine ⟨ZE.2 ⟨hi, h2⟩, ?_, rfl, ?_⟩
 all_goals
  unfold za
  cases hs : zT a with
  | false =>
   first
    | (show xW [49] = 0; exact ZE.2 (by decide))
    | (unfold zU; rw [hs]; show zS [49] = ((1 : Nat) : Int); decide)
  | true =>
   unfold Zy at h1
   rw [hs] at h1
   have hd : Zq (zh a) = true := by
    revert h1
    cases Zq (zh a) <;> simp
   obtain ⟨i1, i2⟩ := vl hd
   first
    | exact ZE.2 ⟨i1, Nat.le_trans (Wx _).1 h3⟩
    | (unfold zU; rw [hs]; exact i2)
theorem su (g : Nat) : (Lib.itoa (g : Int) == [49]) = Nat.beq g 1 := by
 rw [Go.Ar.YQ, Bool.eq_iff_iff, beq_iff_eq, Nat.beq_eq]
 constructor
 ·intro h
  have := congrArg zH h
  rw [Zi] at this
  exact this
 ·intro h
  rw [h, zg (by decide)]; rfl
theorem Z8 {a : zK} (h : zZ a = true) : Zr a = 0 ∧ (zv a).natAbs ≤ 99999999 ∧ zU a ≤ 99999999 ∧ 0 < zU a := by
 obtain ⟨h1, h2, h3, h4⟩ := Yi.1 h
 obtain ⟨g1, g2, g3⟩ := YG.1 h1
 have hr : Zr a = 0 := by
  unfold zZ at h
  rw [Bool.and_eq_true, Bool.and_eq_true, beq_iff_eq] at h
  exact h.1.1
 have b := Xn g1 (k := 8) h2
 rw [show 10 ^ 8 = 100000000 from by decide] at b
 refine ⟨hr, by rw [tY]; omega, ?_, yg (Zn.1 hr).1⟩
 rw [(Xc (a := a)).2]
 cases hs : zT (zt a) with
 | false => show 1 ≤ 99999999; decide
 | true =>
  have b := Xn (g3 hs).1 (k := 8) h3
  rw [show 10 ^ 8 = 100000000 from by decide] at b
  simp only [cond_true]
  omega
theorem sT {a : zK} (h : Zr a = 0) : (zp a).length ≤ vk (zv a) + 1 ∧ (za a).length = Lib.nDigits (zU a) ∧ a.length ≤ vk (zv a) + Lib.nDigits (zU a) + 2 := by
 have hf := (Zn.1 h).1
 have hp := yg hf
 have e : a = ye (zv a) (zU a) := (Wi hf).symm
 obtain ⟨s1, s2, s3, s4, s5⟩ := Ym (zv a) hp
 rw [← e] at s4 s5
 have l1 := (Wx (zp a)).2
 have l3 : (za a).length = Lib.nDigits (zU a) := by
  obtain ⟨_, v2, _, v4⟩ := Oi h
  obtain ⟨i1, _⟩ := ZE.1 v2
  have h5 := YD i1
  rw [v4, Go.Ar.YQ] at h5
  rw [← h5, Lib.decDigits_length]
 refine ⟨by omega, l3, ?_⟩
 have : a.length = (ye (zv a) (zU a)).length := congrArg List.length e
 rw [this]
 unfold ye
 rw [List.length_append, YZ]
 have b2 : (bif Nat.beq (zU a) 1 then [] else 47 :: Lib.decDigits (zU a)).length ≤ 1 + Lib.nDigits (zU a) := by
  cases Nat.beq (zU a) 1 with
  | true => simp
  | false => rw [cond_false, List.length_cons, Lib.decDigits_length]; omega
 split <;> omega
theorem X7 {a : zK} (h : zZ a = true) : a.length ≤ 18 ∧ (zp a).length ≤ 9 ∧ (za a).length ≤ 8 := by
 obtain ⟨h1, h2, h3, _⟩ := Z8 h
 obtain ⟨l1, l2, l3⟩ := sT h1
 have a1 : vk (zv a) ≤ 8 := Y7 (by decide) (Nat.lt_of_le_of_lt h2 (by decide))
 have a2 : Lib.nDigits (zU a) ≤ 8 := (yP (by decide)).2 (Nat.lt_of_le_of_lt h3 (by decide))
 omega
theorem QR {a : zK} (h : Zr a = 0) (hn : (zv a).natAbs ≤ 99999999) (hd : zU a ≤ 99999999) : zZ a = true := by
 obtain ⟨_, o2, _, _, o5, _, _⟩ := yL a
 have hf := (Zn.1 h).1
 have hp := yg hf
 have e : a = ye (zv a) (zU a) := (Wi hf).symm
 obtain ⟨s1, s2, s3, s4, s5⟩ := Ym (zv a) hp
 rw [← e] at s4 s5
 have a1 : vk (zv a) ≤ 8 := Y7 (by decide) (Nat.lt_of_le_of_lt hn (by decide))
 have a2 : Lib.nDigits (zU a) ≤ 8 := (yP (by decide)).2 (Nat.lt_of_le_of_lt hd (by decide))
 unfold zZ
 rw [h, Bool.and_eq_true, Bool.and_eq_true, ZY, ZY]
 have q1 : (zp (zt a)).length ≤ 8 := by rw [← o5, s4]; exact a1
 have q2 : (zh (zt a)).length ≤ 8 := by rw [← o2, s5]; split <;> omega
 exact ⟨⟨rfl, by omega⟩, by omega⟩
theorem We {n : Int} {d : Nat} (hd : 0 < d) (hn : n.natAbs ≤ 99999999) (hd2 : d ≤ 99999999) : zZ (zY n d) = true := by
 obtain ⟨p1, p2, p3, p4⟩ := Zf n hd
 obtain ⟨q1, q2, _⟩ := xh (n := n) hd
 have hnv : ((Nat.gcd n.natAbs d : Nat) : Int) ∣ n := Int.ofNat_dvd_left.2 (Nat.gcd_dvd_left _ _)
 have hn2 : (n / (Nat.gcd n.natAbs d : Int)).natAbs ≤ n.natAbs := by
  rw [← Int.tdiv_eq_ediv_of_dvd hnv]
  exact Int.natAbs_tdiv_le_natAbs n _
 have hd3 : d / Nat.gcd n.natAbs d ≤ d := Nat.div_le_self _ _
 obtain ⟨s1, s2, s3, s4, s5⟩ := Ym (n / (Nat.gcd n.natAbs d : Int)) q2
 have a1 : vk (n / (Nat.gcd n.natAbs d : Int)) ≤ 8 := Y7 (by decide) (Nat.lt_of_le_of_lt hn2 (Nat.lt_of_le_of_lt hn (by decide)))
 have a2 : Lib.nDigits (d / Nat.gcd n.natAbs d) ≤ 8 := (yP (by decide)).2 (by omega)
 refine QR (Zn.2 ⟨p1, ?_, ?_, p4⟩) (by rw [p2]; omega) (by rw [p3]; omega)
 ·show YH (zp (ye _ _)) ≤ 300
  rw [s4]; omega
 ·show (zh (ye _ _)).length ≤ 300
  rw [s5]; split <;> omega
def OM (r : AV) : List AV → Option (List zO × AV) := fun _ => some ([.p False], r)
theorem sU {P : Program} {G : List (Nat × Obj)} {f : FuncId} (r : AV) : zP P G f (OM r) := by
 intro xs ps r' h hp
 cases h
 exact (hp _ List.mem_cons_self).elim
def vL (a : zK) : Prop := Zr a = 0 ∧ (zZ a = true ∨ zT a = false)
theorem x9 {a : zK} (h : zZ a = true) : vL a := ⟨(Z8 h).1, .inl h⟩
theorem qk {a : zK} (h : vL a) : a.length ≤ 700 := by
 obtain ⟨_, _, l3⟩ := sT h.1
 obtain ⟨_, h2, h3, _⟩ := Zn.1 h.1
 have l1 := (Wx (zp a)).2
 have l2 := tw a
 by_cases hs : zT a = true
 ·have := congrArg List.length (xj hs)
  rw [List.length_append, List.length_cons] at this
  omega
 ·have := (yx (Bool.eq_false_iff.2 hs)).1
  rw [this] at l1 h2
  omega
def O8 : Tb := ((((T0).plus 113 TI).plus 65 TS).plus 114 (YM fun s => .str (zt s))).plus 102 (OM (.tup 2 (zX [.str [], .i 0])))
theorem sE : zz Tryz.prog O8 := zz.plus (zz.plus (zz.plus (zz.plus zq Pl) P5) WW) (sU _)
def uu : List AV → Option (List zO × AV)
 | [.str a] => some ([.p (vL a)], .tup 2 (zX [.agg 2 (zX [.str (zp a), .str (za a)]), .i 0]))
 | _ => none
theorem rJ (a : List UInt8) (hr : vL a) :
 let q1 := (True ∧ 2 = 2 ∧ bA #[] = zp a ∧ bA #[] = za a); let q3 := (bif Zy a then bif zT a then zh a else [(49 : UInt8)] else []); let q2 := (j2 ∧ (True ∧ 2 = 2 ∧ (bif Zy a then zp a else []) = zp a ∧ q3 = za a) ∧ kI ∧ iZ = iZ); let q6 := (lZ (zt (bif Zy a then zp a else []))); let q5 := (zA (300 : Int) q6); let q4 := (!zQ false q5 || zQ false q5); zb [AV.str a] → lN a ≤
 nX ∧ zV (!Zy a) (j2 ∧ q1 ∧ kI ∧ (11 : Int) = iZ) (lN a ≤ nX ∧ zV (zZ a) q2 (bF q4 (bF q4 (bF q4 (bF (!!zA (300 : Int) q6 || zQ false q5) (zV (bif zA (300 : Int) q6 then true else zA (300 : Int) (lZ q3)) (j2 ∧ q1 ∧ kI ∧ (4 : Int) = iZ) (zV (q3 == bA #[(49 : UInt8)]) q2 (False ∧ j2 ∧ q1 ∧ kI ∧ (11 :
 Int) = iZ)))))))) := by
 delta bF bA nX kI j2 lZ lN iZ
 dsimp only
 intro hb
 simp only [sS, dS, xF]
 have hl := qk hr
 obtain ⟨h1, h2⟩ := hr
 obtain ⟨f1, f2, f3, f4⟩ := Zn.1 h1
 have hden : (bif zT a then zh a else [49]) = za a := rfl
 obtain ⟨o1, o2, o3, o4, o5, o6, o7⟩ := yL a
 have hlen : (zt (zp a)).length = (zp (zt a)).length := by rw [← (sO (zp a)).2, o5]
 simp only [f1, cond_true, hden]
 refine ⟨by omega, zR.2 ⟨fun c => by simp at c, fun _ => ⟨by omega, zR.2 ⟨fun k => ⟨rfl, trivial, trivial⟩, fun k => zR.2 ⟨fun k2 => ?_, fun k2 => zR.2 ⟨fun k3 => ⟨rfl, trivial, trivial⟩, fun k3 => ?_⟩⟩⟩⟩⟩⟩
 ·rw [Bool.or_eq_true, zl, zl, hlen] at k2
  rw [o5] at f2
  have : (za a).length ≤ 300 := by unfold za; cases zT a with | true => exact f3 | false => exact (by decide : ([49] : zK).length ≤ 300)
  omega
 ·rw [h2.resolve_left (by rw [k]; decide)] at hden
  rw [← hden] at k3
  cases k3
theorem pT (a : List UInt8) (hr : vL a) : zu Tryz.prog [] 67 [.str a] (.tup 2 (zX [.agg 2 (zX [.str (zp a), .str (za a)]), .i 0])) :=
 zW (T := O8) (an := .auto) mixed sE (Eq.mp (by kernel_rfl) (rJ a hr))
theorem Qt : zP Tryz.prog [] 67 uu := by
 intro xs ps r h hp
 unfold uu at h
 split at h
 ·skip
  rename_i a
  cases h
  obtain ⟨q0, -⟩ := Zv hp
  exact weaken (ys := [.str a]) ⟨zw _, trivial⟩ (pT a q0)
 ·cases h
noncomputable def O2 : Tb := T0.plus 67 uu
theorem Vv : zz Tryz.prog O2 := zz.plus zq Qt
def wo : List AV → Option (List zO × AV)
 | [.str a] => some ([.p (vL a)], .i 0)
 | _ => none
theorem qM (a : List UInt8) (hr : vL a) :
 zb [AV.str a] → (Zr a = iZ ∧ (zZ a = true ∨ zT a = false)) ∧ kI ∧ iZ = iZ := by
 delta kI iZ
 intro hb
 simp only [sS, dS]
 exact hr
theorem p9 (a : List UInt8) (hr : vL a) : zu Tryz.prog [] 79 [.str a] (.i 0) :=
 zW (T := O2) (an := .auto) mixed Vv (Eq.mp (by kernel_rfl) (qM a hr))
theorem VB : zP Tryz.prog [] 79 wo := by
 intro xs ps r h hp
 unfold wo at h
 split at h
 ·skip
  rename_i a
  cases h
  obtain ⟨q0, -⟩ := Zv hp
  exact weaken (ys := [.str a]) ⟨zw _, trivial⟩ (p9 a q0)
 ·cases h
def X4 : List AV → Option (List zO × AV)
 | [.str a] => some ([.p (vL a)], .tup 3 (zX [.str (zp a), .str (za a), .i 0]))
 | _ => none
theorem sI (a : List UInt8) (hr : vL a) :
 zb [AV.str a] → (Zr a = iZ ∧ (zZ a = true ∨ zT a = false)) ∧ 3 = lN [AV.junk, AV.junk, AV.junk] ∧ ((True ∧ zp a = zp a) ∧ za a = za a) ∧ kI ∧ iZ = iZ := by
 delta kI lN iZ
 intro hb
 simp only [sS, dS]
 exact ⟨hr, rfl⟩
theorem RE (a : List UInt8) (hr : vL a) : zu Tryz.prog [] 134 [.str a] (.tup 3 (zX [.str (zp a), .str (za a), .i 0])) :=
 zW (T := O2) (an := .auto) mixed Vv (Eq.mp (by kernel_rfl) (sI a hr))
theorem Ug : zP Tryz.prog [] 134 X4 := by
 intro xs ps r h hp
 unfold X4 at h
 split at h
 ·skip
  rename_i a
  cases h
  obtain ⟨q0, -⟩ := Zv hp
  exact weaken (ys := [.str a]) ⟨zw _, trivial⟩ (RE a q0)
 ·cases h
def w7 : List AV → Option (List zO × AV)
 | [.str a] => some ([.p (zZ a = true)], .tup 2 (zX [.agg 2 (zX [.i (zv a), .i (zU a : Int)]), .b true]))
 | _ => none
theorem sX : zP Tryz.prog [] 65 w7 := by
 intro xs ps r h hp
 unfold w7 at h
 split at h
 ·rename_i a
  cases h
  have q : zZ a = true := hp _ List.mem_cons_self
  have := qU a (by have := (X7 q).1; omega)
  rw [q] at this
  exact this
 ·cases h
end Go.Te
