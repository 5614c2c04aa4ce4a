/- rational: digits, cut. -/
import Derived.Test.YthbpnknhfokadaaGreatDoorThE
set_option linter.unusedSimpArgs false
set_option linter.unusedVariables false
namespace Go.Te
open Go Go.Sx Go.Proofs Go.Ar
set_option maxRecDepth 100000
set_option maxHeartbeats 4000000
def Wp (s : zj) : Int := bif Nat.blt 1 (wO s).length && s.getD 0 0 == 48 then 0 else ((wO s).length : Int)
theorem sL (c : UInt8) : ∀ s : zj, (0 ≤ Lib.indexByte s c → ∃ z : Nat, Lib.indexByte s c = z ∧ z < s.length ∧ (∀ i, i < z → s.getD i 0 ≠ c) ∧ s.getD z 0 = c) ∧ (Lib.indexByte s c < 0 → ∀ i, i < s.length → s.getD i 0 ≠ c)
 | [] => ⟨fun h => by simp [Lib.indexByte] at h, fun _ i hi => absurd hi (Nat.not_lt_zero _)⟩
 | x :: s => by
  obtain ⟨h1, h2⟩ := sL c s
  unfold Lib.indexByte
  have ge := Lib.indexByte_ge s c
  by_cases hx : x = c
  ·subst hx
   simp only [if_true, beq_self_eq_true, ↓reduceIte]
   exact ⟨fun _ => ⟨0, rfl, by simp, fun i hi => absurd hi (Nat.not_lt_zero _), rfl⟩, fun h => absurd h (by decide)⟩
  ·have hx' : (x == c) = false := beq_eq_false_iff_ne.2 hx
   simp only [hx', hx, if_false, Bool.false_eq_true, ↓reduceIte]
   refine ⟨fun h => ?_, fun h => ?_⟩
   ·split at h
    ·exact absurd h (by decide)
    ·rename_i hn
     have hne : Lib.indexByte s c ≠ -1 := by simpa using hn
     obtain ⟨z, e, h3, h4, h5⟩ := h1 (by omega)
     refine ⟨z + 1, ?_, by simp; omega, fun i hi => ?_, h5⟩
     ·rw [if_neg hn, e]; omega
     ·match i with
      | 0 => exact hx
      | i + 1 => exact h4 i (by omega)
   ·split at h
    ·rename_i hn
     intro i hi
     match i with
     | 0 => exact hx
     | i + 1 =>
      have heq : Lib.indexByte s c = -1 := by simpa using hn
      exact h2 (by omega) i (by simpa using hi)
    ·rename_i hn
     have hne : Lib.indexByte s c ≠ -1 := by simpa using hn
     omega
theorem MK (s : zj) : (Wp s == 0 || zg (Wp s) (s.length : Int)) = !Z1 s := by
 have hsp := congrArg List.length (tW s)
 rw [List.length_append, List.length_drop] at hsp
 cases hd : Z1 s with
 | true =>
  obtain ⟨d1, d2, d3⟩ := Zr.1 hd
  have ht := sj hd
  have e : Wp s = (s.length : Int) := by
   unfold Wp
   rw [ht]
   cases hb : Nat.blt 1 s.length with
   | false => rfl
   | true =>
    rw [beq_eq_false_iff_ne.2 (d3 ((Zx _ _).1 hb))]
    rfl
  rw [e, beq_eq_false_iff_ne.2 (by omega), show zg (s.length : Int) (s.length : Int) = false from Bool.eq_false_iff.2 fun e => by have := (zq _ _).1 e; omega]
  rfl
 | false =>
  show _ = true
  unfold Wp
  cases hb : Nat.blt 1 (wO s).length && s.getD 0 0 == 48 with
  | true => rfl
  | false =>
   simp only [cond_false]
   by_cases h0 : (wO s).length = 0
   ·rw [h0]; rfl
   by_cases hl : (wO s).length < s.length
   ·rw [(zq _ _).2 (by omega), Bool.or_true]
   refine absurd hd ?_
   have ht : wO s = s := by
    have := tW s
    rw [List.drop_of_length_le (by omega), List.append_nil] at this
    exact this
   rw [ht] at hb h0
   have : Z1 s = true := Zr.2 ⟨by omega, fun c hc => Na s c (by rw [ht]; exact hc), fun h1 e => by
    rw [(Zx _ _).2 h1, e] at hb
    cases hb⟩
   rw [this]
   decide
def Kb (s : zj) : yS :=
 .two .auto (.two .auto (.two (.one (.loop Nat (fun σ z => [(0, σ.tm 0), (3, .i (z : Int))]) (fun σ z => []) 0 (fun σ z => z ≤ s.length ∧ ∀ i, i < z → Zd (s.getD i 0) = true) (fun σ z => s.length - z) .auto)) .auto))
def Q4 : List AV → Option (List zn × AV)
 | [.str s] => some ([.p (s.length ≤ 9223372036854775807)], .i (Wp s))
 | _ => none
theorem lA (s : List UInt8) (hl : s.length ≤ 9223372036854775807) :
 Zt [AV.str s] → (∃ (z : Nat), ((z ≤ lN s ∧ ∀ (i : Nat), i < z → Zd (gD s i (0 : UInt8)) = true) ∧ s = s ∧ kI ∧ iZ = (cI z)) ∧ True) ∧ ∀ (z : Nat), let q2 := (zg (cI z) (lZ s)); let q1 := (!zS true q2 || zS true q2); let q3 := (iZ ≤ (cI z) ∧ (cI z) < (lZ s)); let q6 := (cI (UInt8.toNat (gD s (Int.toNat (↑z : Int)) (0 : UInt8)))); let q5 := (bif zg (cI z) (lZ s) then leB (48 : Int) q6 else false); let q4 := (!zS true q5 || zS true q5); let q7 := (!zS
 true (zg iO (cI z)) || zS true (zg iO (cI z))); (z ≤ lN s ∧ ∀ (i : Nat), i < z → Zd (gD s i (0 : UInt8)) = true) → bF q1 (bF q1 (bF (!zS true q2 || DB.db q3) (bF q1 (bF (!zg (cI z) (lZ s) || zS true q2) (bF q4 (bF q4 (bF (!zS true q5 || DB.db q3) (bF q4 (bF ((!bif zg (cI z) (lZ s) then leB (48 : Int) q6 else false) || zS true q5) (zZ (bif bif zg (cI z) (lZ s) then leB (48 : Int) q6 else false then leB q6 (57 : Int) else false)
 (bF (dK ((cI z) + iO)) (∃ (z' : Nat), (((z' ≤ lN s ∧ ∀ (i : Nat), i < z' → Zd (gD s i (0 : UInt8)) = true) ∧ lN s - z' < lN s - z) ∧ s = s ∧ kI ∧ (cI z) + iO = (cI z')) ∧ True)) (bF q7 (bF (!zS true (zg iO (cI z)) || DB.db (iZ ≤ iZ ∧ iZ < (lZ s))) (bF q7 (bF (!zg iO (cI z) || zS true (zg iO (cI z))) (zZ (bif zg iO (cI z) then (cI (UInt8.toNat (gD s 0 (0 : UInt8)))) == (48 :
 Int) else false) (kI ∧ iZ = Wp s) (kI ∧ (cI z) = Wp s)))))))))))))))) := by
 delta bF dK cI kI lZ lN gD iZ iO
 dsimp only
 intro hb
 simp only [sS, dS, xt]
 have dg2 : ∀ c : UInt8, (leB 48 (c.toNat : Int) && leB (c.toNat : Int) 57) = Zd c := fun c => by rw [Bool.eq_iff_iff, Bool.and_eq_true, ZY, ZY, y9]; omega
 simp only [Bool.and_assoc, dg2]
 refine ⟨⟨0, ⟨Nat.zero_le _, fun i hi => absurd hi (Nat.not_lt_zero _)⟩, rfl⟩, fun z ⟨z1, z3⟩ => ⟨fun h => ?_, fun h => ?_, zX.2 ⟨fun c => ?_, fun c => ⟨fun h => ?_, ?_⟩⟩⟩⟩
 ·have := (zq _ _).1 h; exact ⟨by omega, by omega⟩
 ·rw [Bool.and_eq_true] at h; have := (zq _ _).1 h.1; exact ⟨by omega, by omega⟩
 ·rw [Bool.and_eq_true] at c
  have c1 := (zq _ _).1 c.1
  refine ⟨⟨by omega, by omega⟩, z + 1, ⟨⟨by omega, fun i hi => ?_⟩, by omega⟩, by omega⟩
  by_cases e : i = z
  ·rw [e]; exact c.2
  ·exact z3 i (by omega)
 ·have := (zq _ _).1 h; exact ⟨by omega, by omega⟩
 ·have h3 : z = s.length ∨ Zd (s.getD z 0) = false := by
   by_cases q1 : z = s.length
   ·exact .inl q1
   ·rw [(zq _ _).2 (show (z : Int) < (s.length : Int) by omega), Bool.true_and] at c
    exact .inr c
  have ht := PL z1 z3 h3
  have hl : (wO s).length = z := by rw [ht, List.length_take]; omega
  have e1 : (zg 1 (z : Int) && ((s.getD 0 0).toNat : Int) == 48) = (Nat.blt 1 z && s.getD 0 0 == 48) := by
   rw [show (((s.getD 0 0).toNat : Int) == 48) = (s.getD 0 0 == 48) from vo (s.getD 0 0) 48 (by decide), show zg 1 (z : Int) = Nat.blt 1 z from by rw [Bool.eq_iff_iff, zq, Zx]; omega]
  rw [e1]
  unfold Wp
  rw [hl]
  refine zX.2 ⟨fun k => ?_, fun k => ?_⟩
  ·rw [k]; rfl
  ·rw [k]; rfl
theorem JS (s : List UInt8) (hl : s.length ≤ 9223372036854775807) : zU Tryz.prog [] 141 [.str s] (.i (Wp s)) :=
 zW (T := T0) (an := Kb s) mixed zQ (Eq.mp (by kernel_rfl) (lA s hl))
theorem IS : zp Tryz.prog [] 141 Q4 := by
 intro xs ps r h hp
 unfold Q4 at h
 split at h
 ·skip
  rename_i s
  cases h
  obtain ⟨q0, -⟩ := ZF hp
  exact weaken (ys := [.str s]) ⟨zT _, trivial⟩ (JS s q0)
 ·cases h
noncomputable def HI : Tb := (T0.plus 186 sr).body Tryz.prog [(174, .auto)]
theorem qn : zz Tryz.prog HI := zz.body mixed (zz.plus zQ Me) _
theorem Kj (s : zj) (hl : s.length ≤ 9223372036854775807) :
 Zt [AV.str s, AV.str [(47 : UInt8)]] → zZ (leB iZ (Lib.indexByte s (47 : UInt8))) (bF (DB.db (iZ ≤ Lib.indexByte s (47 : UInt8) ∧ Lib.indexByte s (47 : UInt8) ≤ (lZ s))) (bF (dK (Lib.indexByte s (47 : UInt8) + (↑1 : Int))) (bF (DB.db (iZ ≤ Lib.indexByte s (47 : UInt8) + (↑1 : Int) ∧ Lib.indexByte s (47 : UInt8) + (↑1 : Int) ≤ (lZ s))) (3 = lN [AV.junk, AV.junk, AV.junk] ∧ ((True ∧ List.take (Int.toNat (Lib.indexByte s (47 : UInt8))) s = zO s) ∧ List.drop (Int.toNat (Lib.indexByte s (47 : UInt8) +
 (↑1 : Int))) s = zb s) ∧ true = zJ s)))) (3 = lN [AV.junk, AV.junk, AV.junk] ∧ ((True ∧ s = zO s) ∧ bA #[] = zb s) ∧ false = zJ s) := by
 delta bF dK bA lZ lN iZ
 intro hb
 simp only [sS, dS, xt]
 obtain ⟨h1, h2⟩ := sL 47 s
 refine ⟨fun h => ?_, fun h => ?_⟩
 ·obtain ⟨z, e, z1, z2, z3⟩ := h1 h
  obtain ⟨c1, c2, c3⟩ := ik z1 z2 z3
  rw [e, c1, c2, c3, show ((z : Int)).toNat = z from rfl, show ((z : Int) + 1).toNat = z + 1 by omega]
  exact ⟨⟨by omega, by omega⟩, ⟨by omega, by omega⟩, ⟨by omega, by omega⟩, rfl, ⟨rfl, rfl⟩, rfl⟩
 ·obtain ⟨c1, c2, c3⟩ := N5 (h2 h)
  rw [c1, c2, c3]
  exact ⟨rfl, ⟨rfl, rfl⟩, rfl⟩
def rp : List AV → Option (List zn × AV)
 | [.str s, .str p] => some ([.b (p == [47]), .p (s.length ≤ 9223372036854775807)], .tup 3 (zw [.str (zO s), .str (zb s), .b (zJ s)]))
 | _ => none
theorem im : zp Tryz.prog [] 139 rp := by
 intro xs ps r h hp
 unfold rp at h
 split at h
 ·rename_i s p
  cases h
  have q : (p == [47]) = true := hp _ List.mem_cons_self
  have q1 : s.length ≤ 9223372036854775807 := hp _ (List.mem_cons_of_mem _ List.mem_cons_self)
  obtain rfl := eq_of_beq q
  exact zW mixed qn (Eq.mp (by kernel_rfl) (Kj s q1) : vC Tryz.prog HI 139 (.auto) [.str s, .str [47]] (.tup 3 (zw [.str (zO s), .str (zb s), .b (zJ s)])))
 ·cases h
theorem NZ (t : zj) : Zy t = (Z1 (zR t) && !(zL t && zR t == [48])) := by
 match t with
 | [] => rfl
 | c :: r =>
  by_cases hc : c = 45
  ·subst hc
   rfl
  ·have hm : zL (c :: r) = false := beq_eq_false_iff_ne.2 hc
   obtain ⟨h1, _, _⟩ := Wl (a := c :: r) fun h => hc h.2
   rw [h1, hm, ← sJ hm, Bool.false_and, Bool.not_false, Bool.and_true]
noncomputable def Gf : Tb := ((T0.plus 139 rp).plus 140 (Yk fun s => .tup 2 (zw [.str (zR s), .b (zL s)]))).plus 141 Q4
theorem oE : zz Tryz.prog Gf := zz.plus (zz.plus (zz.plus zQ im) Qe) IS
def qO : List AV → Option (List zn × AV)
 | [.str a] => some ([.p (a.length ≤ 9223372036854775807)], .tup 2 (zw [.agg 2 (zw [.str (bif Zn a then zO a else []), .str (bif Zn a then (bif zJ a then zb a else [49]) else [])]), .b (Zn a)]))
 | _ => none
theorem KJ (a : List UInt8) (hl : a.length ≤ 9223372036854775807) :
 let q1 := (!zS false (Wp (zR (zO a)) == iZ) || zS false (Wp (zR (zO a)) == iZ)); let q3 := (bif Wp (zR (zO a)) == iZ then true else zg (Wp (zR (zO a))) (lZ (zR (zO a)))); let q2 := (!zS false q3 || zS false q3); let q4 := (ByteArray.data (ByteArray.mk #[(48 : UInt8)])); let q5 := (j2 ∧ (True ∧ 2 = 2 ∧ (bA #[] = bif Zn a then zO a else []) ∧ bA #[] = bif Zn a then bif zJ a then zb a else [(49 :
 UInt8)] else []) ∧ false = Zn a); let q6 := (zO a = bif Zn a then zO a else []); let q7 := (ByteArray.data (ByteArray.mk #[(49 : UInt8)])); let q8 := (!zS false (Wp (zb a) == iZ) || zS false (Wp (zb a) == iZ)); let q9 := (bif Wp (zb a) == iZ then true else zg (Wp (zb a)) (lZ (zb a))); let q10 := (bif bif Wp (zb a) == iZ then true else zg (Wp (zb a)) (lZ (zb a)) then true else zb a == Array.toList q4); Zt [AV.str a] → lN a ≤ nX ∧ lN (zR (zO a)) ≤
 nX ∧ bF q1 (bF q1 (bF q1 (bF (!!Wp (zR (zO a)) == iZ || zS false (Wp (zR (zO a)) == iZ)) (bF q2 (bF (!(zS false q3 && zS true (zL (zO a))) || zS false q3 && zS true (zL (zO a))) (bF q2 (bF (!zS false q3 || (!zL (zO a) || zS false q3 && zS true (zL (zO a)))) (bF ((!!bif Wp (zR (zO a)) == iZ then true else zg (Wp (zR (zO a))) (lZ (zR (zO a)))) || zS false q3) (zZ (bif bif Wp (zR (zO a)) == iZ then true else zg (Wp (zR (zO a)))
 (lZ (zR (zO a))) then true else bif zL (zO a) then zR (zO a) == Array.toList q4 else false) q5 (zZ (!zJ a) (j2 ∧ (True ∧ 2 = 2 ∧ q6 ∧ Array.toList q7 = bif Zn a then bif zJ a then zb a else [(49 : UInt8)] else []) ∧ true = Zn a) (lN (zb a) ≤ nX ∧ bF q8 (bF q8 (bF q8 (bF (!!Wp (zb a) == iZ || zS false (Wp (zb a) == iZ)) (bF (!zS false q9 || zS false q9) (bF ((!!bif Wp (zb a) == iZ then true else zg (Wp (zb a)) (cI (List.length
 (zb a)))) || zS false q9) (bF (!zS false q10 || zS false q10) (bF ((!!bif bif Wp (zb a) == iZ then true else zg (Wp (zb a)) (lZ (zb a)) then true else zb a == Array.toList q4) || zS false q10) (zZ (bif bif bif Wp (zb a) == iZ then true else zg (Wp (zb a)) (lZ (zb a)) then true else zb a == Array.toList q4 then true else zb a == Array.toList q7) q5 (j2 ∧ (True ∧ 2 = 2 ∧ q6 ∧ zb a = bif Zn a then bif zJ a then zb a else [(49 : UInt8)] else []) ∧ true =
 Zn a)))))))))))))))))))) := by
 delta bF bA nX cI j2 lZ lN iZ
 dsimp only
 intro hb
 simp only [sS, dS, xt, MK]
 have hF : Zn a = (Zy (zO a) && (!zJ a || Z1 (zb a) && !(zb a == [48]) && !(zb a == [49]))) := rfl
 rw [NZ] at hF
 have l1 := vO a
 have l2 := qZ a
 have l3 := tg (zO a)
 generalize Z1 (zR (zO a)) = p1 at *
 generalize (zL (zO a)) = p2 at *
 generalize (zR (zO a) == [48]) = p3 at *
 refine ⟨hl, by omega, ?_⟩
 refine u7 (by cases p1 <;> cases p2 <;> rfl) ?_
 refine zX.2 ⟨fun c => ?_, fun c => zX.2 ⟨fun c2 => ?_, fun c2 => ⟨by omega, zX.2 ⟨fun c3 => ?_, fun c3 => ?_⟩⟩⟩⟩
 ·have e : Zn a = false := by
   rw [hF]
   revert c
   cases p1 <;> cases p2 <;> cases p3 <;> simp
  rw [e]
  exact ⟨rfl, ⟨rfl, rfl⟩, rfl⟩
 ·have hs : zJ a = false := by simpa using c2
  have e : Zn a = true := by
   rw [hF, hs]
   revert c
   cases p1 <;> cases p2 <;> cases p3 <;> simp
  rw [e, hs]
  exact ⟨rfl, ⟨rfl, rfl⟩, rfl⟩
 ·have hs : zJ a = true := by simpa using c2
  have e : Zn a = false := by
   rw [hF, hs]
   revert c3
   cases Z1 (zb a) <;> cases zb a == [48] <;> cases zb a == [49] <;> simp
  rw [e]
  exact ⟨rfl, ⟨rfl, rfl⟩, rfl⟩
 ·have hs : zJ a = true := by simpa using c2
  have e : Zn a = true := by
   rw [hF, hs]
   revert c c3
   cases Z1 (zb a) <;> cases zb a == [48] <;> cases zb a == [49] <;> cases p1 <;> cases p2 <;> cases p3 <;> simp
  rw [e, hs]
  exact ⟨rfl, ⟨rfl, rfl⟩, rfl⟩
theorem J1 (a : List UInt8) (hl : a.length ≤ 9223372036854775807) : zU Tryz.prog [] 94 [.str a] (.tup 2 (zw [.agg 2 (zw [.str (bif Zn a then zO a else []), .str (bif Zn a then (bif zJ a then zb a else [49]) else [])]), .b (Zn a)])) :=
 zW (T := Gf) (an := .auto) mixed oE (Eq.mp (by kernel_rfl) (KJ a hl))
theorem j8 : zp Tryz.prog [] 94 qO := by
 intro xs ps r h hp
 unfold qO at h
 split at h
 ·skip
  rename_i a
  cases h
  obtain ⟨q0, -⟩ := ZF hp
  exact weaken (ys := [.str a]) ⟨zT _, trivial⟩ (J1 a q0)
 ·cases h
end Go.Te
