/- rational: digits, cut. -/
import Derived.Test.YthbpnknhfokadaaGreatDoorThE
set_option linter.unusedSimpArgs false
set_option linter.unusedVariables false
namespace Go.Te
open Go Go.Sx Go.Proofs Go.Ar
set_option maxRecDepth 100000
set_option maxHeartbeats 4000000
def WN (s : zj) : Int := bif Nat.blt 1 (wJ s).length && s.getD 0 0 == 48 then 0 else ((wJ s).length : Int)
theorem sC (c : UInt8) : ∀ s : zj, (0 ≤ Lib.indexByte s c → ∃ z : Nat, Lib.indexByte s c = z ∧ z < s.length ∧ (∀ i, i < z → s.getD i 0 ≠ c) ∧ s.getD z 0 = c) ∧ (Lib.indexByte s c < 0 → ∀ i, i < s.length → s.getD i 0 ≠ c)
 | [] => ⟨fun h => by simp [Lib.indexByte] at h, fun _ i hi => absurd hi (Nat.not_lt_zero _)⟩
 | x :: s => by
  obtain ⟨h1, h2⟩ := sC c s
  unfold Lib.indexByte
  have ge := Lib.indexByte_ge s c
  by_cases hx : x = c
  ·subst hx
   simp only [if_true, beq_self_eq_true, ↓reduceIte]
   exact ⟨fun _ => ⟨0, rfl, by simp, fun i hi => absurd hi (Nat.not_lt_zero _), rfl⟩, fun h => absurd h (by decide)⟩
  ·have hx' : (x == c) = false := beq_eq_false_iff_ne.2 hx
   simp only [hx', hx, if_false, Bool.false_eq_true, ↓reduceIte]
   refine ⟨fun h => ?_, fun h => ?_⟩
   ·split at h
    ·exact absurd h (by decide)
    ·rename_i hn
     have hne : Lib.indexByte s c ≠ -1 := by simpa using hn
     obtain ⟨z, e, h3, h4, h5⟩ := h1 (by omega)
     refine ⟨z + 1, ?_, by simp; omega, fun i hi => ?_, h5⟩
     ·rw [if_neg hn, e]; omega
     ·match i with
      | 0 => exact hx
      | i + 1 => exact h4 i (by omega)
   ·split at h
    ·rename_i hn
     intro i hi
     match i with
     | 0 => exact hx
     | i + 1 =>
      have heq : Lib.indexByte s c = -1 := by simpa using hn
      exact h2 (by omega) i (by simpa using hi)
    ·rename_i hn
     have hne : Lib.indexByte s c ≠ -1 := by simpa using hn
     omega
theorem NL (s : zj) : (WN s == 0 || zG (WN s) (s.length : Int)) = !Z8 s := by
 have hsp := congrArg List.length (UR s)
 rw [List.length_append, List.length_drop] at hsp
 cases hd : Z8 s with
 | true =>
  obtain ⟨d1, d2, d3⟩ := ZS.1 hd
  have ht := S9 hd
  have e : WN s = (s.length : Int) := by
   unfold WN
   rw [ht]
   cases hb : Nat.blt 1 s.length with
   | false => rfl
   | true =>
    rw [beq_eq_false_iff_ne.2 (d3 ((ZX _ _).1 hb))]
    rfl
  rw [e, beq_eq_false_iff_ne.2 (by omega), show zG (s.length : Int) (s.length : Int) = false from Bool.eq_false_iff.2 fun e => by have := (zp _ _).1 e; omega]
  rfl
 | false =>
  show _ = true
  unfold WN
  cases hb : Nat.blt 1 (wJ s).length && s.getD 0 0 == 48 with
  | true => rfl
  | false =>
   simp only [cond_false]
   by_cases h0 : (wJ s).length = 0
   ·rw [h0]; rfl
   by_cases hl : (wJ s).length < s.length
   ·rw [(zp _ _).2 (by omega), Bool.or_true]
   refine absurd hd ?_
   have ht : wJ s = s := by
    have := UR s
    rw [List.drop_of_length_le (by omega), List.append_nil] at this
    exact this
   rw [ht] at hb h0
   have : Z8 s = true := ZS.2 ⟨by omega, fun c hc => MZ s c (by rw [ht]; exact hc), fun h1 e => by
    rw [(ZX _ _).2 h1, e] at hb
    cases hb⟩
   rw [this]
   decide
def lE (s : zj) : yQ :=
 .two .auto (.two .auto (.two (.one (.loop Nat (fun σ z => [(0, σ.tm 0), (3, .i (z : Int))]) (fun σ z => []) 0 (fun σ z => z ≤ s.length ∧ ∀ i, i < z → Zc (s.getD i 0) = true) (fun σ z => s.length - z) .auto)) .auto))
def qc : List AV → Option (List zN × AV)
 | [.str s] => some ([.p (s.length ≤ 9223372036854775807)], .i (WN s))
 | _ => none
theorem Kn (s : List UInt8) (hl : s.length ≤ 9223372036854775807) :
 Zy [AV.str s] → (∃ (z : Nat), ((z ≤ lN s ∧ ∀ (i : Nat), i < z → Zc (gD s i (0 : UInt8)) = true) ∧ s = s ∧ kI ∧ iZ = (cI z)) ∧ True) ∧ ∀ (z : Nat), let q2 := (zG (cI z) (lZ s)); let q1 := (!zr true q2 || zr true q2); let q3 := (iZ ≤ (cI z) ∧ (cI z) < (lZ s)); let q6 := (cI (UInt8.toNat (gD s (Int.toNat (↑z : Int)) (0 : UInt8)))); let q5 := (bif zG (cI z) (lZ s) then leB (48 : Int) q6 else false); let q4 := (!zr true q5 || zr true q5); let q7 := (!zr
 true (zG iO (cI z)) || zr true (zG iO (cI z))); (z ≤ lN s ∧ ∀ (i : Nat), i < z → Zc (gD s i (0 : UInt8)) = true) → bF q1 (bF q1 (bF (!zr true q2 || DB.db q3) (bF q1 (bF (!zG (cI z) (lZ s) || zr true q2) (bF q4 (bF q4 (bF (!zr true q5 || DB.db q3) (bF q4 (bF ((!bif zG (cI z) (lZ s) then leB (48 : Int) q6 else false) || zr true q5) (zZ (bif bif zG (cI z) (lZ s) then leB (48 : Int) q6 else false then leB q6 (57 : Int) else false)
 (bF (dK ((cI z) + iO)) (∃ (z' : Nat), (((z' ≤ lN s ∧ ∀ (i : Nat), i < z' → Zc (gD s i (0 : UInt8)) = true) ∧ lN s - z' < lN s - z) ∧ s = s ∧ kI ∧ (cI z) + iO = (cI z')) ∧ True)) (bF q7 (bF (!zr true (zG iO (cI z)) || DB.db (iZ ≤ iZ ∧ iZ < (lZ s))) (bF q7 (bF (!zG iO (cI z) || zr true (zG iO (cI z))) (zZ (bif zG iO (cI z) then (cI (UInt8.toNat (gD s 0 (0 : UInt8)))) == (48 :
 Int) else false) (kI ∧ iZ = WN s) (kI ∧ (cI z) = WN s)))))))))))))))) := by
 delta bF dK cI kI lZ lN gD iZ iO
 dsimp only
 intro hb
 simp only [sS, dS, xt]
 have dg2 : ∀ c : UInt8, (leB 48 (c.toNat : Int) && leB (c.toNat : Int) 57) = Zc c := fun c => by rw [Bool.eq_iff_iff, Bool.and_eq_true, Zx, Zx, y8]; omega
 simp only [Bool.and_assoc, dg2]
 refine ⟨⟨0, ⟨Nat.zero_le _, fun i hi => absurd hi (Nat.not_lt_zero _)⟩, rfl⟩, fun z ⟨z1, z3⟩ => ⟨fun h => ?_, fun h => ?_, zX.2 ⟨fun c => ?_, fun c => ⟨fun h => ?_, ?_⟩⟩⟩⟩
 ·have := (zp _ _).1 h; exact ⟨by omega, by omega⟩
 ·rw [Bool.and_eq_true] at h; have := (zp _ _).1 h.1; exact ⟨by omega, by omega⟩
 ·rw [Bool.and_eq_true] at c
  have c1 := (zp _ _).1 c.1
  refine ⟨⟨by omega, by omega⟩, z + 1, ⟨⟨by omega, fun i hi => ?_⟩, by omega⟩, by omega⟩
  by_cases e : i = z
  ·rw [e]; exact c.2
  ·exact z3 i (by omega)
 ·have := (zp _ _).1 h; exact ⟨by omega, by omega⟩
 ·have h3 : z = s.length ∨ Zc (s.getD z 0) = false := by
   by_cases q1 : z = s.length
   ·exact .inl q1
   ·rw [(zp _ _).2 (show (z : Int) < (s.length : Int) by omega), Bool.true_and] at c
    exact .inr c
  have ht := Pf z1 z3 h3
  have hl : (wJ s).length = z := by rw [ht, List.length_take]; omega
  have e1 : (zG 1 (z : Int) && ((s.getD 0 0).toNat : Int) == 48) = (Nat.blt 1 z && s.getD 0 0 == 48) := by
   rw [show (((s.getD 0 0).toNat : Int) == 48) = (s.getD 0 0 == 48) from vO (s.getD 0 0) 48 (by decide), show zG 1 (z : Int) = Nat.blt 1 z from by rw [Bool.eq_iff_iff, zp, ZX]; omega]
  rw [e1]
  unfold WN
  rw [hl]
  refine zX.2 ⟨fun k => ?_, fun k => ?_⟩
  ·rw [k]; rfl
  ·rw [k]; rfl
theorem Is (s : List UInt8) (hl : s.length ≤ 9223372036854775807) : zu Tryz.prog [] 141 [.str s] (.i (WN s)) :=
 zv (T := T0) (an := lE s) mixed zq (Eq.mp (by kernel_rfl) (Kn s hl))
theorem Ih : zP Tryz.prog [] 141 qc := by
 intro xs ps r h hp
 unfold qc at h
 split at h
 ·skip
  rename_i s
  cases h
  obtain ⟨q0, -⟩ := Zo hp
  exact weaken (ys := [.str s]) ⟨zV _, trivial⟩ (Is s q0)
 ·cases h
noncomputable def gz : Tb := (T0.plus 186 sH).body Tryz.prog [(174, .auto)]
theorem pR : zz Tryz.prog gz := zz.body mixed (zz.plus zq Nw) _
theorem KC (s : zj) (hl : s.length ≤ 9223372036854775807) :
 Zy [AV.str s, AV.str [(47 : UInt8)]] → zZ (leB iZ (Lib.indexByte s (47 : UInt8))) (bF (DB.db (iZ ≤ Lib.indexByte s (47 : UInt8) ∧ Lib.indexByte s (47 : UInt8) ≤ (lZ s))) (bF (dK (Lib.indexByte s (47 : UInt8) + (↑1 : Int))) (bF (DB.db (iZ ≤ Lib.indexByte s (47 : UInt8) + (↑1 : Int) ∧ Lib.indexByte s (47 : UInt8) + (↑1 : Int) ≤ (lZ s))) (3 = lN [AV.junk, AV.junk, AV.junk] ∧ ((True ∧ List.take (Int.toNat (Lib.indexByte s (47 : UInt8))) s = zm s) ∧ List.drop (Int.toNat (Lib.indexByte s (47 : UInt8) +
 (↑1 : Int))) s = zB s) ∧ true = zi s)))) (3 = lN [AV.junk, AV.junk, AV.junk] ∧ ((True ∧ s = zm s) ∧ bA #[] = zB s) ∧ false = zi s) := by
 delta bF dK bA lZ lN iZ
 intro hb
 simp only [sS, dS, xt]
 obtain ⟨h1, h2⟩ := sC 47 s
 refine ⟨fun h => ?_, fun h => ?_⟩
 ·obtain ⟨z, e, z1, z2, z3⟩ := h1 h
  obtain ⟨c1, c2, c3⟩ := Jt z1 z2 z3
  rw [e, c1, c2, c3, show ((z : Int)).toNat = z from rfl, show ((z : Int) + 1).toNat = z + 1 by omega]
  exact ⟨⟨by omega, by omega⟩, ⟨by omega, by omega⟩, ⟨by omega, by omega⟩, rfl, ⟨rfl, rfl⟩, rfl⟩
 ·obtain ⟨c1, c2, c3⟩ := Nc (h2 h)
  rw [c1, c2, c3]
  exact ⟨rfl, ⟨rfl, rfl⟩, rfl⟩
def SQ : List AV → Option (List zN × AV)
 | [.str s, .str p] => some ([.b (p == [47]), .p (s.length ≤ 9223372036854775807)], .tup 3 (zw [.str (zm s), .str (zB s), .b (zi s)]))
 | _ => none
theorem Jr : zP Tryz.prog [] 139 SQ := by
 intro xs ps r h hp
 unfold SQ at h
 split at h
 ·rename_i s p
  cases h
  have q : (p == [47]) = true := hp _ List.mem_cons_self
  have q1 : s.length ≤ 9223372036854775807 := hp _ (List.mem_cons_of_mem _ List.mem_cons_self)
  obtain rfl := eq_of_beq q
  exact zv mixed pR (Eq.mp (by kernel_rfl) (KC s q1) : vm Tryz.prog gz 139 (.auto) [.str s, .str [47]] (.tup 3 (zw [.str (zm s), .str (zB s), .b (zi s)])))
 ·cases h
theorem No (t : zj) : ZY t = (Z8 (zQ t) && !(zk t && zQ t == [48])) := by
 match t with
 | [] => rfl
 | c :: r =>
  by_cases hc : c = 45
  ·subst hc
   rfl
  ·have hm : zk (c :: r) = false := beq_eq_false_iff_ne.2 hc
   obtain ⟨h1, _, _⟩ := Wn (a := c :: r) fun h => hc h.2
   rw [h1, hm, ← sB hm, Bool.false_and, Bool.not_false, Bool.and_true]
noncomputable def Gg : Tb := ((T0.plus 139 SQ).plus 140 (Yl fun s => .tup 2 (zw [.str (zQ s), .b (zk s)]))).plus 141 qc
theorem oF : zz Tryz.prog Gg := zz.plus (zz.plus (zz.plus zq Jr) Qy) Ih
def qF : List AV → Option (List zN × AV)
 | [.str a] => some ([.p (a.length ≤ 9223372036854775807)], .tup 2 (zw [.agg 2 (zw [.str (bif ZM a then zm a else []), .str (bif ZM a then (bif zi a then zB a else [49]) else [])]), .b (ZM a)]))
 | _ => none
theorem Kq (a : List UInt8) (hl : a.length ≤ 9223372036854775807) :
 let q1 := (!zr false (WN (zQ (zm a)) == iZ) || zr false (WN (zQ (zm a)) == iZ)); let q3 := (bif WN (zQ (zm a)) == iZ then true else zG (WN (zQ (zm a))) (lZ (zQ (zm a)))); let q2 := (!zr false q3 || zr false q3); let q4 := (ByteArray.data (ByteArray.mk #[(48 : UInt8)])); let q5 := (j2 ∧ (True ∧ 2 = 2 ∧ (bA #[] = bif ZM a then zm a else []) ∧ bA #[] = bif ZM a then bif zi a then zB a else [(49 :
 UInt8)] else []) ∧ false = ZM a); let q6 := (zm a = bif ZM a then zm a else []); let q7 := (ByteArray.data (ByteArray.mk #[(49 : UInt8)])); let q8 := (!zr false (WN (zB a) == iZ) || zr false (WN (zB a) == iZ)); let q9 := (bif WN (zB a) == iZ then true else zG (WN (zB a)) (lZ (zB a))); let q10 := (bif bif WN (zB a) == iZ then true else zG (WN (zB a)) (lZ (zB a)) then true else zB a == Array.toList q4); Zy [AV.str a] → lN a ≤ nX ∧ lN (zQ (zm a)) ≤
 nX ∧ bF q1 (bF q1 (bF q1 (bF (!!WN (zQ (zm a)) == iZ || zr false (WN (zQ (zm a)) == iZ)) (bF q2 (bF (!(zr false q3 && zr true (zk (zm a))) || zr false q3 && zr true (zk (zm a))) (bF q2 (bF (!zr false q3 || (!zk (zm a) || zr false q3 && zr true (zk (zm a)))) (bF ((!!bif WN (zQ (zm a)) == iZ then true else zG (WN (zQ (zm a))) (lZ (zQ (zm a)))) || zr false q3) (zZ (bif bif WN (zQ (zm a)) == iZ then true else zG (WN (zQ (zm a)))
 (lZ (zQ (zm a))) then true else bif zk (zm a) then zQ (zm a) == Array.toList q4 else false) q5 (zZ (!zi a) (j2 ∧ (True ∧ 2 = 2 ∧ q6 ∧ Array.toList q7 = bif ZM a then bif zi a then zB a else [(49 : UInt8)] else []) ∧ true = ZM a) (lN (zB a) ≤ nX ∧ bF q8 (bF q8 (bF q8 (bF (!!WN (zB a) == iZ || zr false (WN (zB a) == iZ)) (bF (!zr false q9 || zr false q9) (bF ((!!bif WN (zB a) == iZ then true else zG (WN (zB a)) (cI (List.length
 (zB a)))) || zr false q9) (bF (!zr false q10 || zr false q10) (bF ((!!bif bif WN (zB a) == iZ then true else zG (WN (zB a)) (lZ (zB a)) then true else zB a == Array.toList q4) || zr false q10) (zZ (bif bif bif WN (zB a) == iZ then true else zG (WN (zB a)) (lZ (zB a)) then true else zB a == Array.toList q4 then true else zB a == Array.toList q7) q5 (j2 ∧ (True ∧ 2 = 2 ∧ q6 ∧ zB a = bif ZM a then bif zi a then zB a else [(49 : UInt8)] else []) ∧ true =
 ZM a)))))))))))))))))))) := by
 delta bF bA nX cI j2 lZ lN iZ
 dsimp only
 intro hb
 simp only [sS, dS, xt, NL]
 have hF : ZM a = (ZY (zm a) && (!zi a || Z8 (zB a) && !(zB a == [48]) && !(zB a == [49]))) := rfl
 rw [No] at hF
 have l1 := vK a
 have l2 := R4 a
 have l3 := uA (zm a)
 generalize Z8 (zQ (zm a)) = p1 at *
 generalize (zk (zm a)) = p2 at *
 generalize (zQ (zm a) == [48]) = p3 at *
 refine ⟨hl, by omega, ?_⟩
 refine te (by cases p1 <;> cases p2 <;> rfl) ?_
 refine zX.2 ⟨fun c => ?_, fun c => zX.2 ⟨fun c2 => ?_, fun c2 => ⟨by omega, zX.2 ⟨fun c3 => ?_, fun c3 => ?_⟩⟩⟩⟩
 ·have e : ZM a = false := by
   rw [hF]
   revert c
   cases p1 <;> cases p2 <;> cases p3 <;> simp
  rw [e]
  exact ⟨rfl, ⟨rfl, rfl⟩, rfl⟩
 ·have hs : zi a = false := by simpa using c2
  have e : ZM a = true := by
   rw [hF, hs]
   revert c
   cases p1 <;> cases p2 <;> cases p3 <;> simp
  rw [e, hs]
  exact ⟨rfl, ⟨rfl, rfl⟩, rfl⟩
 ·have hs : zi a = true := by simpa using c2
  have e : ZM a = false := by
   rw [hF, hs]
   revert c3
   cases Z8 (zB a) <;> cases zB a == [48] <;> cases zB a == [49] <;> simp
  rw [e]
  exact ⟨rfl, ⟨rfl, rfl⟩, rfl⟩
 ·have hs : zi a = true := by simpa using c2
  have e : ZM a = true := by
   rw [hF, hs]
   revert c c3
   cases Z8 (zB a) <;> cases zB a == [48] <;> cases zB a == [49] <;> cases p1 <;> cases p2 <;> cases p3 <;> simp
  rw [e, hs]
  exact ⟨rfl, ⟨rfl, rfl⟩, rfl⟩
theorem il (a : List UInt8) (hl : a.length ≤ 9223372036854775807) : zu Tryz.prog [] 94 [.str a] (.tup 2 (zw [.agg 2 (zw [.str (bif ZM a then zm a else []), .str (bif ZM a then (bif zi a then zB a else [49]) else [])]), .b (ZM a)])) :=
 zv (T := Gg) (an := .auto) mixed oF (Eq.mp (by kernel_rfl) (Kq a hl))
theorem iw : zP Tryz.prog [] 94 qF := by
 intro xs ps r h hp
 unfold qF at h
 split at h
 ·skip
  rename_i a
  cases h
  obtain ⟨q0, -⟩ := Zo hp
  exact weaken (ys := [.str a]) ⟨zV _, trivial⟩ (il a q0)
 ·cases h
end Go.Te
