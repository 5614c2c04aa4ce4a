/- rational: digits, cut. -/
import Derived.Test.YtgpbohfbhfbelaaGreatDoorTkE
set_option linter.unusedSimpArgs false
set_option linter.unusedVariables false
namespace Go.Te
open Go Go.Sx Go.Proofs Go.Ar
set_option maxRecDepth 100000
set_option maxHeartbeats 4000000
def W3 (s : zL) : Int := bif Nat.blt 1 (w7 s).length && s.getD 0 0 == 48 then 0 else ((w7 s).length : Int)
theorem oo (c : UInt8) : ∀ s : zL, (0 ≤ Lib.indexByte s c → ∃ z : Nat, Lib.indexByte s c = z ∧ z < s.length ∧ (∀ i, i < z → s.getD i 0 ≠ c) ∧ s.getD z 0 = c) ∧ (Lib.indexByte s c < 0 → ∀ i, i < s.length → s.getD i 0 ≠ c)
 | [] => ⟨fun h => by simp [Lib.indexByte] at h, fun _ i hi => absurd hi (Nat.not_lt_zero _)⟩
 | x :: s => by
  obtain ⟨h1, h2⟩ := oo c s
  unfold Lib.indexByte
  have ge := Lib.indexByte_ge s c
  by_cases hx : x = c
  ·subst hx
   simp only [if_true, beq_self_eq_true, ↓reduceIte]
   exact ⟨fun _ => ⟨0, rfl, by simp, fun i hi => absurd hi (Nat.not_lt_zero _), rfl⟩, fun h => absurd h (by decide)⟩
  ·have hx' : (x == c) = false := beq_eq_false_iff_ne.2 hx
   simp only [hx', hx, if_false, Bool.false_eq_true, ↓reduceIte]
   refine ⟨fun h => ?_, fun h => ?_⟩
   ·split at h
    ·exact absurd h (by decide)
    ·rename_i hn
     have hne : Lib.indexByte s c ≠ -1 := by simpa using hn
     obtain ⟨z, e, h3, h4, h5⟩ := h1 (by omega)
     refine ⟨z + 1, ?_, by simp; omega, fun i hi => ?_, h5⟩
     ·rw [if_neg hn, e]; omega
     ·match i with
      | 0 => exact hx
      | i + 1 => exact h4 i (by omega)
   ·split at h
    ·rename_i hn
     intro i hi
     match i with
     | 0 => exact hx
     | i + 1 =>
      have heq : Lib.indexByte s c = -1 := by simpa using hn
      exact h2 (by omega) i (by simpa using hi)
    ·rename_i hn
     have hne : Lib.indexByte s c ≠ -1 := by simpa using hn
     omega
theorem mO (s : zL) : (W3 s == 0 || zH (W3 s) (s.length : Int)) = !z6 s := by
 have hsp := congrArg List.length (TJ s)
 rw [List.length_append, List.length_drop] at hsp
 cases hd : z6 s with
 | true =>
  obtain ⟨d1, d2, d3⟩ := Zx.1 hd
  have ht := S6 hd
  have e : W3 s = (s.length : Int) := by
   unfold W3
   rw [ht]
   cases hb : Nat.blt 1 s.length with
   | false => rfl
   | true =>
    rw [beq_eq_false_iff_ne.2 (d3 ((zA _ _).1 hb))]
    rfl
  rw [e, beq_eq_false_iff_ne.2 (by omega), show zH (s.length : Int) (s.length : Int) = false from Bool.eq_false_iff.2 fun e => by have := (zR _ _).1 e; omega]
  rfl
 | false =>
  show _ = true
  unfold W3
  cases hb : Nat.blt 1 (w7 s).length && s.getD 0 0 == 48 with
  | true => rfl
  | false =>
   simp only [cond_false]
   by_cases h0 : (w7 s).length = 0
   ·rw [h0]; rfl
   by_cases hl : (w7 s).length < s.length
   ·rw [(zR _ _).2 (by omega), Bool.or_true]
   refine absurd hd ?_
   have ht : w7 s = s := by
    have := TJ s
    rw [List.drop_of_length_le (by omega), List.append_nil] at this
    exact this
   rw [ht] at hb h0
   have : z6 s = true := Zx.2 ⟨by omega, fun c hc => Lu s c (by rw [ht]; exact hc), fun h1 e => by
    rw [(zA _ _).2 h1, e] at hb
    cases hb⟩
   rw [this]
   decide
def jc (s : zL) : Z9 :=
 .two .auto (.two .auto (.two (.one (.loop Nat (fun σ z => [(0, σ.tm 0), (3, .i (z : Int))]) (fun σ z => []) 0 (fun σ z => z ≤ s.length ∧ ∀ i, i < z → Zs (s.getD i 0) = true) (fun σ z => s.length - z) .auto)) .auto))
def P9 : List AV → Option (List zn × AV)
 | [.str s] => some ([.p (s.length ≤ 9223372036854775807)], .i (W3 s))
 | _ => none
theorem jG (s : List UInt8) (hl : s.length ≤ 9223372036854775807) :
 ZY [AV.str s] → (∃ (z : Nat), ((z ≤ lN s ∧ ∀ (i : Nat), i < z → Zs (gD s i (0 : UInt8)) = true) ∧ s = s ∧ kI ∧ iZ = (cI z)) ∧ True) ∧ ∀ (z : Nat), let q2 := (zH (cI z) (lZ s)); let q1 := (!zS true q2 || zS true q2); let q3 := (iZ ≤ (cI z) ∧ (cI z) < (lZ s)); let q6 := (cI (UInt8.toNat (gD s (Int.toNat (↑z : Int)) (0 : UInt8)))); let q5 := (bif zH (cI z) (lZ s) then leB (48 : Int) q6 else false); let q4 := (!zS true q5 || zS true q5); let q7 := (!zS
 true (zH iO (cI z)) || zS true (zH iO (cI z))); (z ≤ lN s ∧ ∀ (i : Nat), i < z → Zs (gD s i (0 : UInt8)) = true) → bF q1 (bF q1 (bF (!zS true q2 || DB.db q3) (bF q1 (bF (!zH (cI z) (lZ s) || zS true q2) (bF q4 (bF q4 (bF (!zS true q5 || DB.db q3) (bF q4 (bF ((!bif zH (cI z) (lZ s) then leB (48 : Int) q6 else false) || zS true q5) (zY (bif bif zH (cI z) (lZ s) then leB (48 : Int) q6 else false then leB q6 (57 : Int) else false)
 (bF (dK ((cI z) + iO)) (∃ (z' : Nat), (((z' ≤ lN s ∧ ∀ (i : Nat), i < z' → Zs (gD s i (0 : UInt8)) = true) ∧ lN s - z' < lN s - z) ∧ s = s ∧ kI ∧ (cI z) + iO = (cI z')) ∧ True)) (bF q7 (bF (!zS true (zH iO (cI z)) || DB.db (iZ ≤ iZ ∧ iZ < (lZ s))) (bF q7 (bF (!zH iO (cI z) || zS true (zH iO (cI z))) (zY (bif zH iO (cI z) then (cI (UInt8.toNat (gD s 0 (0 : UInt8)))) == (48 :
 Int) else false) (kI ∧ iZ = W3 s) (kI ∧ (cI z) = W3 s)))))))))))))))) := by
 delta bF dK cI kI lZ lN gD iZ iO
 dsimp only
 intro hb
 simp only [sS, dS, Za]
 have dg2 : ∀ c : UInt8, (leB 48 (c.toNat : Int) && leB (c.toNat : Int) 57) = Zs c := fun c => by rw [Bool.eq_iff_iff, Bool.and_eq_true, ze, ze, yR]; omega
 simp only [Bool.and_assoc, dg2]
 refine ⟨⟨0, ⟨Nat.zero_le _, fun i hi => absurd hi (Nat.not_lt_zero _)⟩, rfl⟩, fun z ⟨z1, z3⟩ => ⟨fun h => ?_, fun h => ?_, zv.2 ⟨fun c => ?_, fun c => ⟨fun h => ?_, ?_⟩⟩⟩⟩
 ·have := (zR _ _).1 h; exact ⟨by omega, by omega⟩
 ·rw [Bool.and_eq_true] at h; have := (zR _ _).1 h.1; exact ⟨by omega, by omega⟩
 ·rw [Bool.and_eq_true] at c
  have c1 := (zR _ _).1 c.1
  refine ⟨⟨by omega, by omega⟩, z + 1, ⟨⟨by omega, fun i hi => ?_⟩, by omega⟩, by omega⟩
  by_cases e : i = z
  ·rw [e]; exact c.2
  ·exact z3 i (by omega)
 ·have := (zR _ _).1 h; exact ⟨by omega, by omega⟩
 ·have h3 : z = s.length ∨ Zs (s.getD z 0) = false := by
   by_cases q1 : z = s.length
   ·exact .inl q1
   ·rw [(zR _ _).2 (show (z : Int) < (s.length : Int) by omega), Bool.true_and] at c
    exact .inr c
  have ht := oM z1 z3 h3
  have hl : (w7 s).length = z := by rw [ht, List.length_take]; omega
  have e1 : (zH 1 (z : Int) && ((s.getD 0 0).toNat : Int) == 48) = (Nat.blt 1 z && s.getD 0 0 == 48) := by
   rw [show (((s.getD 0 0).toNat : Int) == 48) = (s.getD 0 0 == 48) from YV (s.getD 0 0) 48 (by decide), show zH 1 (z : Int) = Nat.blt 1 z from by rw [Bool.eq_iff_iff, zR, zA]; omega]
  rw [e1]
  unfold W3
  rw [hl]
  refine zv.2 ⟨fun k => ?_, fun k => ?_⟩
  ·rw [k]; rfl
  ·rw [k]; rfl
theorem HU (s : List UInt8) (hl : s.length ≤ 9223372036854775807) : zT Tryz.prog [] 130 [.str s] (.i (W3 s)) :=
 zU (T := T0) (an := jc s) mixed zq (Eq.mp (by kernel_rfl) (jG s hl))
theorem HM : zQ Tryz.prog [] 130 P9 := by
 intro xs ps r h hp
 unfold P9 at h
 split at h
 ·skip
  rename_i s
  cases h
  obtain ⟨q0, -⟩ := Zo hp
  exact weaken (ys := [.str s]) ⟨zr _, trivial⟩ (HU s q0)
 ·cases h
noncomputable def Gu : Tb := (T0.plus 224 RH).body Tryz.prog [(188, .auto)]
theorem pE : zZ Tryz.prog Gu := zZ.body mixed (zZ.plus zq lI) _
theorem jr (s : zL) (hl : s.length ≤ 9223372036854775807) :
 ZY [AV.str s, AV.str [(47 : UInt8)]] → zY (leB iZ (Lib.indexByte s (47 : UInt8))) (bF (DB.db (iZ ≤ Lib.indexByte s (47 : UInt8) ∧ Lib.indexByte s (47 : UInt8) ≤ (lZ s))) (bF (dK (Lib.indexByte s (47 : UInt8) + (↑1 : Int))) (bF (DB.db (iZ ≤ Lib.indexByte s (47 : UInt8) + (↑1 : Int) ∧ Lib.indexByte s (47 : UInt8) + (↑1 : Int) ≤ (lZ s))) (3 = lN [AV.junk, AV.junk, AV.junk] ∧ ((True ∧ List.take (Int.toNat (Lib.indexByte s (47 : UInt8))) s = zp s) ∧ List.drop (Int.toNat (Lib.indexByte s (47 : UInt8) +
 (↑1 : Int))) s = zg s) ∧ true = zk s)))) (3 = lN [AV.junk, AV.junk, AV.junk] ∧ ((True ∧ s = zp s) ∧ bA #[] = zg s) ∧ false = zk s) := by
 delta bF dK bA lZ lN iZ
 intro hb
 simp only [sS, dS, Za]
 obtain ⟨h1, h2⟩ := oo 47 s
 refine ⟨fun h => ?_, fun h => ?_⟩
 ·obtain ⟨z, e, z1, z2, z3⟩ := h1 h
  obtain ⟨c1, c2, c3⟩ := Mm z1 z2 z3
  rw [e, c1, c2, c3, show ((z : Int)).toNat = z from rfl, show ((z : Int) + 1).toNat = z + 1 by omega]
  exact ⟨⟨by omega, by omega⟩, ⟨by omega, by omega⟩, ⟨by omega, by omega⟩, rfl, ⟨rfl, rfl⟩, rfl⟩
 ·obtain ⟨c1, c2, c3⟩ := Pw (h2 h)
  rw [c1, c2, c3]
  exact ⟨rfl, ⟨rfl, rfl⟩, rfl⟩
def rj : List AV → Option (List zn × AV)
 | [.str s, .str p] => some ([.b (p == [47]), .p (s.length ≤ 9223372036854775807)], .tup 3 (zt [.str (zp s), .str (zg s), .b (zk s)]))
 | _ => none
theorem ii : zQ Tryz.prog [] 128 rj := by
 intro xs ps r h hp
 unfold rj at h
 split at h
 ·rename_i s p
  cases h
  have q : (p == [47]) = true := hp _ List.mem_cons_self
  have q1 : s.length ≤ 9223372036854775807 := hp _ (List.mem_cons_of_mem _ List.mem_cons_self)
  obtain rfl := eq_of_beq q
  exact zU mixed pE (Eq.mp (by kernel_rfl) (jr s q1) : T7 Tryz.prog Gu 128 (.auto) [.str s, .str [47]] (.tup 3 (zt [.str (zp s), .str (zg s), .b (zk s)])))
 ·cases h
theorem MH (t : zL) : zC t = (z6 (zu t) && !(zG t && zu t == [48])) := by
 match t with
 | [] => rfl
 | c :: r =>
  by_cases hc : c = 45
  ·subst hc
   rfl
  ·have hm : zG (c :: r) = false := beq_eq_false_iff_ne.2 hc
   obtain ⟨h1, _, _⟩ := Yw (a := c :: r) fun h => hc h.2
   rw [h1, hm, ← RU hm, Bool.false_and, Bool.not_false, Bool.and_true]
noncomputable def EO : Tb := ((T0.plus 128 rj).plus 129 (YF fun s => .tup 2 (zt [.str (zu s), .b (zG s)]))).plus 130 P9
theorem NP : zZ Tryz.prog EO := zZ.plus (zZ.plus (zZ.plus zq ii) pD) HM
def pj : List AV → Option (List zn × AV)
 | [.str a] => some ([.p (a.length ≤ 9223372036854775807)], .tup 2 (zt [.agg 2 (zt [.str (bif ZM a then zp a else []), .str (bif ZM a then (bif zk a then zg a else [49]) else [])]), .b (ZM a)]))
 | _ => none
theorem jZ (a : List UInt8) (hl : a.length ≤ 9223372036854775807) :
 let q1 := (!zS false (W3 (zu (zp a)) == iZ) || zS false (W3 (zu (zp a)) == iZ)); let q3 := (bif W3 (zu (zp a)) == iZ then true else zH (W3 (zu (zp a))) (lZ (zu (zp a)))); let q2 := (!zS false q3 || zS false q3); let q4 := (ByteArray.data (ByteArray.mk #[(48 : UInt8)])); let q5 := (j2 ∧ (True ∧ 2 = 2 ∧ (bA #[] = bif ZM a then zp a else []) ∧ bA #[] = bif ZM a then bif zk a then zg a else [(49 :
 UInt8)] else []) ∧ false = ZM a); let q6 := (zp a = bif ZM a then zp a else []); let q7 := (ByteArray.data (ByteArray.mk #[(49 : UInt8)])); let q8 := (!zS false (W3 (zg a) == iZ) || zS false (W3 (zg a) == iZ)); let q9 := (bif W3 (zg a) == iZ then true else zH (W3 (zg a)) (lZ (zg a))); let q10 := (bif bif W3 (zg a) == iZ then true else zH (W3 (zg a)) (lZ (zg a)) then true else zg a == Array.toList q4); ZY [AV.str a] → lN a ≤ nX ∧ lN (zu (zp a)) ≤
 nX ∧ bF q1 (bF q1 (bF q1 (bF (!!W3 (zu (zp a)) == iZ || zS false (W3 (zu (zp a)) == iZ)) (bF q2 (bF (!(zS false q3 && zS true (zG (zp a))) || zS false q3 && zS true (zG (zp a))) (bF q2 (bF (!zS false q3 || (!zG (zp a) || zS false q3 && zS true (zG (zp a)))) (bF ((!!bif W3 (zu (zp a)) == iZ then true else zH (W3 (zu (zp a))) (lZ (zu (zp a)))) || zS false q3) (zY (bif bif W3 (zu (zp a)) == iZ then true else zH (W3 (zu (zp a)))
 (lZ (zu (zp a))) then true else bif zG (zp a) then zu (zp a) == Array.toList q4 else false) q5 (zY (!zk a) (j2 ∧ (True ∧ 2 = 2 ∧ q6 ∧ Array.toList q7 = bif ZM a then bif zk a then zg a else [(49 : UInt8)] else []) ∧ true = ZM a) (lN (zg a) ≤ nX ∧ bF q8 (bF q8 (bF q8 (bF (!!W3 (zg a) == iZ || zS false (W3 (zg a) == iZ)) (bF (!zS false q9 || zS false q9) (bF ((!!bif W3 (zg a) == iZ then true else zH (W3 (zg a)) (cI (List.length
 (zg a)))) || zS false q9) (bF (!zS false q10 || zS false q10) (bF ((!!bif bif W3 (zg a) == iZ then true else zH (W3 (zg a)) (lZ (zg a)) then true else zg a == Array.toList q4) || zS false q10) (zY (bif bif bif W3 (zg a) == iZ then true else zH (W3 (zg a)) (lZ (zg a)) then true else zg a == Array.toList q4 then true else zg a == Array.toList q7) q5 (j2 ∧ (True ∧ 2 = 2 ∧ q6 ∧ zg a = bif ZM a then bif zk a then zg a else [(49 : UInt8)] else []) ∧ true =
 ZM a)))))))))))))))))))) := by
 delta bF bA nX cI j2 lZ lN iZ
 dsimp only
 intro hb
 simp only [sS, dS, Za, mO]
 have hF : ZM a = (zC (zp a) && (!zk a || z6 (zg a) && !(zg a == [48]) && !(zg a == [49]))) := rfl
 rw [MH] at hF
 have l1 := Ya a
 have l2 := Vp a
 have l3 := X6 (zp a)
 generalize z6 (zu (zp a)) = p1 at *
 generalize (zG (zp a)) = p2 at *
 generalize (zu (zp a) == [48]) = p3 at *
 refine ⟨hl, by omega, ?_⟩
 refine Wt (by cases p1 <;> cases p2 <;> rfl) ?_
 refine zv.2 ⟨fun c => ?_, fun c => zv.2 ⟨fun c2 => ?_, fun c2 => ⟨by omega, zv.2 ⟨fun c3 => ?_, fun c3 => ?_⟩⟩⟩⟩
 ·have e : ZM a = false := by
   rw [hF]
   revert c
   cases p1 <;> cases p2 <;> cases p3 <;> simp
  rw [e]
  exact ⟨rfl, ⟨rfl, rfl⟩, rfl⟩
 ·have hs : zk a = false := by simpa using c2
  have e : ZM a = true := by
   rw [hF, hs]
   revert c
   cases p1 <;> cases p2 <;> cases p3 <;> simp
  rw [e, hs]
  exact ⟨rfl, ⟨rfl, rfl⟩, rfl⟩
 ·have hs : zk a = true := by simpa using c2
  have e : ZM a = false := by
   rw [hF, hs]
   revert c3
   cases z6 (zg a) <;> cases zg a == [48] <;> cases zg a == [49] <;> simp
  rw [e]
  exact ⟨rfl, ⟨rfl, rfl⟩, rfl⟩
 ·have hs : zk a = true := by simpa using c2
  have e : ZM a = true := by
   rw [hF, hs]
   revert c c3
   cases z6 (zg a) <;> cases zg a == [48] <;> cases zg a == [49] <;> cases p1 <;> cases p2 <;> cases p3 <;> simp
  rw [e, hs]
  exact ⟨rfl, ⟨rfl, rfl⟩, rfl⟩
theorem iq (a : List UInt8) (hl : a.length ≤ 9223372036854775807) : zT Tryz.prog [] 82 [.str a] (.tup 2 (zt [.agg 2 (zt [.str (bif ZM a then zp a else []), .str (bif ZM a then (bif zk a then zg a else [49]) else [])]), .b (ZM a)])) :=
 zU (T := EO) (an := .auto) mixed NP (Eq.mp (by kernel_rfl) (jZ a hl))
theorem iL : zQ Tryz.prog [] 82 pj := by
 intro xs ps r h hp
 unfold pj at h
 split at h
 ·skip
  rename_i a
  cases h
  obtain ⟨q0, -⟩ := Zo hp
  exact weaken (ys := [.str a]) ⟨zr _, trivial⟩ (iq a q0)
 ·cases h
end Go.Te
