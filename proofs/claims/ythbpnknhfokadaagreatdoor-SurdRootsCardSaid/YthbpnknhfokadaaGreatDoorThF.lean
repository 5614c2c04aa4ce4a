/- rational: digits, cut. -/
import Derived.Test.YthbpnknhfokadaaGreatDoorThE
set_option linter.unusedSimpArgs false
set_option linter.unusedVariables false
namespace Go.Te
open Go Go.Sx Go.Proofs Go.Ar
set_option maxRecDepth 100000
set_option maxHeartbeats 4000000
def Wh (s : zI) : Int := bif Nat.blt 1 (wj s).length && s.getD 0 0 == 48 then 0 else ((wj s).length : Int)
theorem SU (c : UInt8) : ∀ s : zI, (0 ≤ Lib.indexByte s c → ∃ z : Nat, Lib.indexByte s c = z ∧ z < s.length ∧ (∀ i, i < z → s.getD i 0 ≠ c) ∧ s.getD z 0 = c) ∧ (Lib.indexByte s c < 0 → ∀ i, i < s.length → s.getD i 0 ≠ c)
 | [] => ⟨fun h => by simp [Lib.indexByte] at h, fun _ i hi => absurd hi (Nat.not_lt_zero _)⟩
 | x :: s => by
  obtain ⟨h1, h2⟩ := SU c s
  unfold Lib.indexByte
  have ge := Lib.indexByte_ge s c
  by_cases hx : x = c
  ·subst hx
   simp only [if_true, beq_self_eq_true, ↓reduceIte]
   exact ⟨fun _ => ⟨0, rfl, by simp, fun i hi => absurd hi (Nat.not_lt_zero _), rfl⟩, fun h => absurd h (by decide)⟩
  ·have hx' : (x == c) = false := beq_eq_false_iff_ne.2 hx
   simp only [hx', hx, if_false, Bool.false_eq_true, ↓reduceIte]
   refine ⟨fun h => ?_, fun h => ?_⟩
   ·split at h
    ·exact absurd h (by decide)
    ·rename_i hn
     have hne : Lib.indexByte s c ≠ -1 := by simpa using hn
     obtain ⟨z, e, h3, h4, h5⟩ := h1 (by omega)
     refine ⟨z + 1, ?_, by simp; omega, fun i hi => ?_, h5⟩
     ·rw [if_neg hn, e]; omega
     ·match i with
      | 0 => exact hx
      | i + 1 => exact h4 i (by omega)
   ·split at h
    ·rename_i hn
     intro i hi
     match i with
     | 0 => exact hx
     | i + 1 =>
      have heq : Lib.indexByte s c = -1 := by simpa using hn
      exact h2 (by omega) i (by simpa using hi)
    ·rename_i hn
     have hne : Lib.indexByte s c ≠ -1 := by simpa using hn
     omega
theorem ng (s : zI) : (Wh s == 0 || zF (Wh s) (s.length : Int)) = !Z4 s := by
 have hsp := congrArg List.length (U4 s)
 rw [List.length_append, List.length_drop] at hsp
 cases hd : Z4 s with
 | true =>
  obtain ⟨d1, d2, d3⟩ := Zs.1 hd
  have ht := SQ hd
  have e : Wh s = (s.length : Int) := by
   unfold Wh
   rw [ht]
   cases hb : Nat.blt 1 s.length with
   | false => rfl
   | true =>
    rw [beq_eq_false_iff_ne.2 (d3 ((Zw _ _).1 hb))]
    rfl
  rw [e, beq_eq_false_iff_ne.2 (by omega), show zF (s.length : Int) (s.length : Int) = false from Bool.eq_false_iff.2 fun e => by have := (zp _ _).1 e; omega]
  rfl
 | false =>
  show _ = true
  unfold Wh
  cases hb : Nat.blt 1 (wj s).length && s.getD 0 0 == 48 with
  | true => rfl
  | false =>
   simp only [cond_false]
   by_cases h0 : (wj s).length = 0
   ·rw [h0]; rfl
   by_cases hl : (wj s).length < s.length
   ·rw [(zp _ _).2 (by omega), Bool.or_true]
   refine absurd hd ?_
   have ht : wj s = s := by
    have := U4 s
    rw [List.drop_of_length_le (by omega), List.append_nil] at this
    exact this
   rw [ht] at hb h0
   have : Z4 s = true := Zs.2 ⟨by omega, fun c hc => Nq s c (by rw [ht]; exact hc), fun h1 e => by
    rw [(Zw _ _).2 h1, e] at hb
    cases hb⟩
   rw [this]
   decide
def Kq (s : zI) : yq :=
 .two .auto (.two .auto (.two (.one (.loop Nat (fun σ z => [(0, σ.tm 0), (3, .i (z : Int))]) (fun σ z => []) 0 (fun σ z => z ≤ s.length ∧ ∀ i, i < z → Zd (s.getD i 0) = true) (fun σ z => s.length - z) .auto)) .auto))
def qy : List AV → Option (List zk × AV)
 | [.str s] => some ([.p (s.length ≤ 9223372036854775807)], .i (Wh s))
 | _ => none
theorem Lf (s : List UInt8) (hl : s.length ≤ 9223372036854775807) :
 Zv [AV.str s] → (∃ (z : Nat), ((z ≤ lN s ∧ ∀ (i : Nat), i < z → Zd (gD s i (0 : UInt8)) = true) ∧ s = s ∧ kI ∧ iZ = (cI z)) ∧ True) ∧ ∀ (z : Nat), let q2 := (zF (cI z) (lZ s)); let q1 := (!zr true q2 || zr true q2); let q3 := (iZ ≤ (cI z) ∧ (cI z) < (lZ s)); let q6 := (cI (UInt8.toNat (gD s (Int.toNat (↑z : Int)) (0 : UInt8)))); let q5 := (bif zF (cI z) (lZ s) then leB (48 : Int) q6 else false); let q4 := (!zr true q5 || zr true q5); let q7 := (!zr
 true (zF iO (cI z)) || zr true (zF iO (cI z))); (z ≤ lN s ∧ ∀ (i : Nat), i < z → Zd (gD s i (0 : UInt8)) = true) → bF q1 (bF q1 (bF (!zr true q2 || DB.db q3) (bF q1 (bF (!zF (cI z) (lZ s) || zr true q2) (bF q4 (bF q4 (bF (!zr true q5 || DB.db q3) (bF q4 (bF ((!bif zF (cI z) (lZ s) then leB (48 : Int) q6 else false) || zr true q5) (zZ (bif bif zF (cI z) (lZ s) then leB (48 : Int) q6 else false then leB q6 (57 : Int) else false)
 (bF (dK ((cI z) + iO)) (∃ (z' : Nat), (((z' ≤ lN s ∧ ∀ (i : Nat), i < z' → Zd (gD s i (0 : UInt8)) = true) ∧ lN s - z' < lN s - z) ∧ s = s ∧ kI ∧ (cI z) + iO = (cI z')) ∧ True)) (bF q7 (bF (!zr true (zF iO (cI z)) || DB.db (iZ ≤ iZ ∧ iZ < (lZ s))) (bF q7 (bF (!zF iO (cI z) || zr true (zF iO (cI z))) (zZ (bif zF iO (cI z) then (cI (UInt8.toNat (gD s 0 (0 : UInt8)))) == (48 :
 Int) else false) (kI ∧ iZ = Wh s) (kI ∧ (cI z) = Wh s)))))))))))))))) := by
 delta bF dK cI kI lZ lN gD iZ iO
 dsimp only
 intro hb
 simp only [sS, dS, xN]
 have dg2 : ∀ c : UInt8, (leB 48 (c.toNat : Int) && leB (c.toNat : Int) 57) = Zd c := fun c => by rw [Bool.eq_iff_iff, Bool.and_eq_true, ZX, ZX, YZ]; omega
 simp only [Bool.and_assoc, dg2]
 refine ⟨⟨0, ⟨Nat.zero_le _, fun i hi => absurd hi (Nat.not_lt_zero _)⟩, rfl⟩, fun z ⟨z1, z3⟩ => ⟨fun h => ?_, fun h => ?_, zY.2 ⟨fun c => ?_, fun c => ⟨fun h => ?_, ?_⟩⟩⟩⟩
 ·have := (zp _ _).1 h; exact ⟨by omega, by omega⟩
 ·rw [Bool.and_eq_true] at h; have := (zp _ _).1 h.1; exact ⟨by omega, by omega⟩
 ·rw [Bool.and_eq_true] at c
  have c1 := (zp _ _).1 c.1
  refine ⟨⟨by omega, by omega⟩, z + 1, ⟨⟨by omega, fun i hi => ?_⟩, by omega⟩, by omega⟩
  by_cases e : i = z
  ·rw [e]; exact c.2
  ·exact z3 i (by omega)
 ·have := (zp _ _).1 h; exact ⟨by omega, by omega⟩
 ·have h3 : z = s.length ∨ Zd (s.getD z 0) = false := by
   by_cases q1 : z = s.length
   ·exact .inl q1
   ·rw [(zp _ _).2 (show (z : Int) < (s.length : Int) by omega), Bool.true_and] at c
    exact .inr c
  have ht := QA z1 z3 h3
  have hl : (wj s).length = z := by rw [ht, List.length_take]; omega
  have e1 : (zF 1 (z : Int) && ((s.getD 0 0).toNat : Int) == 48) = (Nat.blt 1 z && s.getD 0 0 == 48) := by
   rw [show (((s.getD 0 0).toNat : Int) == 48) = (s.getD 0 0 == 48) from vJ (s.getD 0 0) 48 (by decide), show zF 1 (z : Int) = Nat.blt 1 z from by rw [Bool.eq_iff_iff, zp, Zw]; omega]
  rw [e1]
  unfold Wh
  rw [hl]
  refine zY.2 ⟨fun k => ?_, fun k => ?_⟩
  ·rw [k]; rfl
  ·rw [k]; rfl
theorem ik (s : List UInt8) (hl : s.length ≤ 9223372036854775807) : zU Tryz.prog [] 141 [.str s] (.i (Wh s)) :=
 zW (T := T0) (an := Kq s) mixed zo (Eq.mp (by kernel_rfl) (Lf s hl))
theorem JM : zO Tryz.prog [] 141 qy := by
 intro xs ps r h hp
 unfold qy at h
 split at h
 ·skip
  rename_i s
  cases h
  obtain ⟨q0, -⟩ := ZH hp
  exact weaken (ys := [.str s]) ⟨zT _, trivial⟩ (ik s q0)
 ·cases h
noncomputable def IA : Tb := (T0.plus 186 Su).body Tryz.prog [(174, .auto)]
theorem qL : zz Tryz.prog IA := zz.body mixed (zz.plus zo Nw) _
theorem ME (s : zI) (hl : s.length ≤ 9223372036854775807) :
 Zv [AV.str s, AV.str [(47 : UInt8)]] → zZ (leB iZ (Lib.indexByte s (47 : UInt8))) (bF (DB.db (iZ ≤ Lib.indexByte s (47 : UInt8) ∧ Lib.indexByte s (47 : UInt8) ≤ (lZ s))) (bF (dK (Lib.indexByte s (47 : UInt8) + (↑1 : Int))) (bF (DB.db (iZ ≤ Lib.indexByte s (47 : UInt8) + (↑1 : Int) ∧ Lib.indexByte s (47 : UInt8) + (↑1 : Int) ≤ (lZ s))) (3 = lN [AV.junk, AV.junk, AV.junk] ∧ ((True ∧ List.take (Int.toNat (Lib.indexByte s (47 : UInt8))) s = zL s) ∧ List.drop (Int.toNat (Lib.indexByte s (47 : UInt8) +
 (↑1 : Int))) s = z6 s) ∧ true = zh s)))) (3 = lN [AV.junk, AV.junk, AV.junk] ∧ ((True ∧ s = zL s) ∧ bA #[] = z6 s) ∧ false = zh s) := by
 delta bF dK bA lZ lN iZ
 intro hb
 simp only [sS, dS, xN]
 obtain ⟨h1, h2⟩ := SU 47 s
 refine ⟨fun h => ?_, fun h => ?_⟩
 ·obtain ⟨z, e, z1, z2, z3⟩ := h1 h
  obtain ⟨c1, c2, c3⟩ := io z1 z2 z3
  rw [e, c1, c2, c3, show ((z : Int)).toNat = z from rfl, show ((z : Int) + 1).toNat = z + 1 by omega]
  exact ⟨⟨by omega, by omega⟩, ⟨by omega, by omega⟩, ⟨by omega, by omega⟩, rfl, ⟨rfl, rfl⟩, rfl⟩
 ·obtain ⟨c1, c2, c3⟩ := NZ (h2 h)
  rw [c1, c2, c3]
  exact ⟨rfl, ⟨rfl, rfl⟩, rfl⟩
def sY : List AV → Option (List zk × AV)
 | [.str s, .str p] => some ([.b (p == [47]), .p (s.length ≤ 9223372036854775807)], .tup 3 (zw [.str (zL s), .str (z6 s), .b (zh s)]))
 | _ => none
theorem iT : zO Tryz.prog [] 139 sY := by
 intro xs ps r h hp
 unfold sY at h
 split at h
 ·rename_i s p
  cases h
  have q : (p == [47]) = true := hp _ List.mem_cons_self
  have q1 : s.length ≤ 9223372036854775807 := hp _ (List.mem_cons_of_mem _ List.mem_cons_self)
  obtain rfl := eq_of_beq q
  exact zW mixed qL (Eq.mp (by kernel_rfl) (ME s q1) : vK Tryz.prog IA 139 (.auto) [.str s, .str [47]] (.tup 3 (zw [.str (zL s), .str (z6 s), .b (zh s)])))
 ·cases h
theorem nU (t : zI) : Zx t = (Z4 (zR t) && !(zJ t && zR t == [48])) := by
 match t with
 | [] => rfl
 | c :: r =>
  by_cases hc : c = 45
  ·subst hc
   rfl
  ·have hm : zJ (c :: r) = false := beq_eq_false_iff_ne.2 hc
   obtain ⟨h1, _, _⟩ := Wj (a := c :: r) fun h => hc h.2
   rw [h1, hm, ← Sz hm, Bool.false_and, Bool.not_false, Bool.and_true]
noncomputable def gg : Tb := ((T0.plus 139 sY).plus 140 (Yj fun s => .tup 2 (zw [.str (zR s), .b (zJ s)]))).plus 141 qy
theorem OV : zz Tryz.prog gg := zz.plus (zz.plus (zz.plus zo iT) R7) JM
def qo : List AV → Option (List zk × AV)
 | [.str a] => some ([.p (a.length ≤ 9223372036854775807)], .tup 2 (zw [.agg 2 (zw [.str (bif ZN a then zL a else []), .str (bif ZN a then (bif zh a then z6 a else [49]) else [])]), .b (ZN a)]))
 | _ => none
theorem l5 (a : List UInt8) (hl : a.length ≤ 9223372036854775807) :
 let q1 := (!zr false (Wh (zR (zL a)) == iZ) || zr false (Wh (zR (zL a)) == iZ)); let q3 := (bif Wh (zR (zL a)) == iZ then true else zF (Wh (zR (zL a))) (lZ (zR (zL a)))); let q2 := (!zr false q3 || zr false q3); let q4 := (ByteArray.data (ByteArray.mk #[(48 : UInt8)])); let q5 := (j2 ∧ (True ∧ 2 = 2 ∧ (bA #[] = bif ZN a then zL a else []) ∧ bA #[] = bif ZN a then bif zh a then z6 a else [(49 :
 UInt8)] else []) ∧ false = ZN a); let q6 := (zL a = bif ZN a then zL a else []); let q7 := (ByteArray.data (ByteArray.mk #[(49 : UInt8)])); let q8 := (!zr false (Wh (z6 a) == iZ) || zr false (Wh (z6 a) == iZ)); let q9 := (bif Wh (z6 a) == iZ then true else zF (Wh (z6 a)) (lZ (z6 a))); let q10 := (bif bif Wh (z6 a) == iZ then true else zF (Wh (z6 a)) (lZ (z6 a)) then true else z6 a == Array.toList q4); Zv [AV.str a] → lN a ≤ nX ∧ lN (zR (zL a)) ≤
 nX ∧ bF q1 (bF q1 (bF q1 (bF (!!Wh (zR (zL a)) == iZ || zr false (Wh (zR (zL a)) == iZ)) (bF q2 (bF (!(zr false q3 && zr true (zJ (zL a))) || zr false q3 && zr true (zJ (zL a))) (bF q2 (bF (!zr false q3 || (!zJ (zL a) || zr false q3 && zr true (zJ (zL a)))) (bF ((!!bif Wh (zR (zL a)) == iZ then true else zF (Wh (zR (zL a))) (lZ (zR (zL a)))) || zr false q3) (zZ (bif bif Wh (zR (zL a)) == iZ then true else zF (Wh (zR (zL a)))
 (lZ (zR (zL a))) then true else bif zJ (zL a) then zR (zL a) == Array.toList q4 else false) q5 (zZ (!zh a) (j2 ∧ (True ∧ 2 = 2 ∧ q6 ∧ Array.toList q7 = bif ZN a then bif zh a then z6 a else [(49 : UInt8)] else []) ∧ true = ZN a) (lN (z6 a) ≤ nX ∧ bF q8 (bF q8 (bF q8 (bF (!!Wh (z6 a) == iZ || zr false (Wh (z6 a) == iZ)) (bF (!zr false q9 || zr false q9) (bF ((!!bif Wh (z6 a) == iZ then true else zF (Wh (z6 a)) (cI (List.length
 (z6 a)))) || zr false q9) (bF (!zr false q10 || zr false q10) (bF ((!!bif bif Wh (z6 a) == iZ then true else zF (Wh (z6 a)) (lZ (z6 a)) then true else z6 a == Array.toList q4) || zr false q10) (zZ (bif bif bif Wh (z6 a) == iZ then true else zF (Wh (z6 a)) (lZ (z6 a)) then true else z6 a == Array.toList q4 then true else z6 a == Array.toList q7) q5 (j2 ∧ (True ∧ 2 = 2 ∧ q6 ∧ z6 a = bif ZN a then bif zh a then z6 a else [(49 : UInt8)] else []) ∧ true =
 ZN a)))))))))))))))))))) := by
 delta bF bA nX cI j2 lZ lN iZ
 dsimp only
 intro hb
 simp only [sS, dS, xN, ng]
 have hF : ZN a = (Zx (zL a) && (!zh a || Z4 (z6 a) && !(z6 a == [48]) && !(z6 a == [49]))) := rfl
 rw [nU] at hF
 have l1 := vH a
 have l2 := RZ a
 have l3 := uJ (zL a)
 generalize Z4 (zR (zL a)) = p1 at *
 generalize (zJ (zL a)) = p2 at *
 generalize (zR (zL a) == [48]) = p3 at *
 refine ⟨hl, by omega, ?_⟩
 refine Uz (by cases p1 <;> cases p2 <;> rfl) ?_
 refine zY.2 ⟨fun c => ?_, fun c => zY.2 ⟨fun c2 => ?_, fun c2 => ⟨by omega, zY.2 ⟨fun c3 => ?_, fun c3 => ?_⟩⟩⟩⟩
 ·have e : ZN a = false := by
   rw [hF]
   revert c
   cases p1 <;> cases p2 <;> cases p3 <;> simp
  rw [e]
  exact ⟨rfl, ⟨rfl, rfl⟩, rfl⟩
 ·have hs : zh a = false := by simpa using c2
  have e : ZN a = true := by
   rw [hF, hs]
   revert c
   cases p1 <;> cases p2 <;> cases p3 <;> simp
  rw [e, hs]
  exact ⟨rfl, ⟨rfl, rfl⟩, rfl⟩
 ·have hs : zh a = true := by simpa using c2
  have e : ZN a = false := by
   rw [hF, hs]
   revert c3
   cases Z4 (z6 a) <;> cases z6 a == [48] <;> cases z6 a == [49] <;> simp
  rw [e]
  exact ⟨rfl, ⟨rfl, rfl⟩, rfl⟩
 ·have hs : zh a = true := by simpa using c2
  have e : ZN a = true := by
   rw [hF, hs]
   revert c c3
   cases Z4 (z6 a) <;> cases z6 a == [48] <;> cases z6 a == [49] <;> cases p1 <;> cases p2 <;> cases p3 <;> simp
  rw [e, hs]
  exact ⟨rfl, ⟨rfl, rfl⟩, rfl⟩
theorem iz (a : List UInt8) (hl : a.length ≤ 9223372036854775807) : zU Tryz.prog [] 94 [.str a] (.tup 2 (zw [.agg 2 (zw [.str (bif ZN a then zL a else []), .str (bif ZN a then (bif zh a then z6 a else [49]) else [])]), .b (ZN a)])) :=
 zW (T := gg) (an := .auto) mixed OV (Eq.mp (by kernel_rfl) (l5 a hl))
theorem iq : zO Tryz.prog [] 94 qo := by
 intro xs ps r h hp
 unfold qo at h
 split at h
 ·skip
  rename_i a
  cases h
  obtain ⟨q0, -⟩ := ZH hp
  exact weaken (ys := [.str a]) ⟨zT _, trivial⟩ (iz a q0)
 ·cases h
end Go.Te
