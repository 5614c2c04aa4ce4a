/- rational: digits, cut. -/
import Derived.Test.YtinnclmkhedgeaaGreatDoorTfE
set_option linter.unusedSimpArgs false
set_option linter.unusedVariables false
namespace Go.Te
open Go Go.Sx Go.Proofs Go.Ar
set_option maxRecDepth 100000
set_option maxHeartbeats 4000000
def xS (s : zL) : Int := bif Nat.blt 1 (YF s).length && s.getD 0 0 == 48 then 0 else ((YF s).length : Int)
theorem Tx (c : UInt8) : ∀ s : zL, (0 ≤ Lib.indexByte s c → ∃ z : Nat, Lib.indexByte s c = z ∧ z < s.length ∧ (∀ i, i < z → s.getD i 0 ≠ c) ∧ s.getD z 0 = c) ∧ (Lib.indexByte s c < 0 → ∀ i, i < s.length → s.getD i 0 ≠ c)
 | [] => ⟨fun h => by simp [Lib.indexByte] at h, fun _ i hi => absurd hi (Nat.not_lt_zero _)⟩
 | x :: s => by
  obtain ⟨h1, h2⟩ := Tx c s
  unfold Lib.indexByte
  have ge := Lib.indexByte_ge s c
  by_cases hx : x = c
  ·subst hx
   simp only [if_true, beq_self_eq_true, ↓reduceIte]
   exact ⟨fun _ => ⟨0, rfl, by simp, fun i hi => absurd hi (Nat.not_lt_zero _), rfl⟩, fun h => absurd h (by decide)⟩
  ·have hx' : (x == c) = false := beq_eq_false_iff_ne.2 hx
   simp only [hx', hx, if_false, Bool.false_eq_true, ↓reduceIte]
   refine ⟨fun h => ?_, fun h => ?_⟩
   ·split at h
    ·exact absurd h (by decide)
    ·rename_i hn
     have hne : Lib.indexByte s c ≠ -1 := by simpa using hn
     obtain ⟨z, e, h3, h4, h5⟩ := h1 (by omega)
     refine ⟨z + 1, ?_, by simp; omega, fun i hi => ?_, h5⟩
     ·rw [if_neg hn, e]; omega
     ·match i with
      | 0 => exact hx
      | i + 1 => exact h4 i (by omega)
   ·split at h
    ·rename_i hn
     intro i hi
     match i with
     | 0 => exact hx
     | i + 1 =>
      have heq : Lib.indexByte s c = -1 := by simpa using hn
      exact h2 (by omega) i (by simpa using hi)
    ·rename_i hn
     have hne : Lib.indexByte s c ≠ -1 := by simpa using hn
     omega
theorem rx (s : zL) : (xS s == 0 || Zz (xS s) (s.length : Int)) = !Zt s := by
 have hsp := congrArg List.length (wE s)
 rw [List.length_append, List.length_drop] at hsp
 cases hd : Zt s with
 | true =>
  obtain ⟨d1, d2, d3⟩ := ZT.1 hd
  have ht := Vz hd
  have e : xS s = (s.length : Int) := by
   unfold xS
   rw [ht]
   cases hb : Nat.blt 1 s.length with
   | false => rfl
   | true =>
    rw [beq_eq_false_iff_ne.2 (d3 ((zf _ _).1 hb))]
    rfl
  rw [e, beq_eq_false_iff_ne.2 (by omega), show Zz (s.length : Int) (s.length : Int) = false from Bool.eq_false_iff.2 fun e => by have := (zm _ _).1 e; omega]
  rfl
 | false =>
  show _ = true
  unfold xS
  cases hb : Nat.blt 1 (YF s).length && s.getD 0 0 == 48 with
  | true => rfl
  | false =>
   simp only [cond_false]
   by_cases h0 : (YF s).length = 0
   ·rw [h0]; rfl
   by_cases hl : (YF s).length < s.length
   ·rw [(zm _ _).2 (by omega), Bool.or_true]
   refine absurd hd ?_
   have ht : YF s = s := by
    have := wE s
    rw [List.drop_of_length_le (by omega), List.append_nil] at this
    exact this
   rw [ht] at hb h0
   have : Zt s = true := ZT.2 ⟨by omega, fun c hc => sq s c (by rw [ht]; exact hc), fun h1 e => by
    rw [(zf _ _).2 h1, e] at hb
    cases hb⟩
   rw [this]
   decide
def rF (s : zL) : Z4 :=
 .two .auto (.two .auto (.two (.one (.loop Nat (fun σ z => [(0, σ.tm 0), (3, .i (z : Int))]) (fun σ z => []) 0 (fun σ z => z ≤ s.length ∧ ∀ i, i < z → ZZ (s.getD i 0) = true) (fun σ z => s.length - z) .auto)) .auto))
def UN : List AV → Option (List zO × AV)
 | [.str s] => some ([.p (s.length ≤ 9223372036854775807)], .i (xS s))
 | _ => none
theorem RF (s : List UInt8) (hl : s.length ≤ 9223372036854775807) :
 Zw [AV.str s] → (∃ (z : Nat), ((z ≤ lN s ∧ ∀ (i : Nat), i < z → ZZ (gD s i (0 : UInt8)) = true) ∧ s = s ∧ kI ∧ iZ = (cI z)) ∧ True) ∧ ∀ (z : Nat), let q2 := (Zz (cI z) (lZ s)); let q1 := (!zq true q2 || zq true q2); let q3 := (iZ ≤ (cI z) ∧ (cI z) < (lZ s)); let q6 := (cI (UInt8.toNat (gD s (Int.toNat (↑z : Int)) (0 : UInt8)))); let q5 := (bif Zz (cI z) (lZ s) then leB (48 : Int) q6 else false); let q4 := (!zq true q5 || zq true q5); let q7 := (!zq
 true (Zz iO (cI z)) || zq true (Zz iO (cI z))); (z ≤ lN s ∧ ∀ (i : Nat), i < z → ZZ (gD s i (0 : UInt8)) = true) → bF q1 (bF q1 (bF (!zq true q2 || DB.db q3) (bF q1 (bF (!Zz (cI z) (lZ s) || zq true q2) (bF q4 (bF q4 (bF (!zq true q5 || DB.db q3) (bF q4 (bF ((!bif Zz (cI z) (lZ s) then leB (48 : Int) q6 else false) || zq true q5) (zw (bif bif Zz (cI z) (lZ s) then leB (48 : Int) q6 else false then leB q6 (57 : Int) else false)
 (bF (dK ((cI z) + iO)) (∃ (z' : Nat), (((z' ≤ lN s ∧ ∀ (i : Nat), i < z' → ZZ (gD s i (0 : UInt8)) = true) ∧ lN s - z' < lN s - z) ∧ s = s ∧ kI ∧ (cI z) + iO = (cI z')) ∧ True)) (bF q7 (bF (!zq true (Zz iO (cI z)) || DB.db (iZ ≤ iZ ∧ iZ < (lZ s))) (bF q7 (bF (!Zz iO (cI z) || zq true (Zz iO (cI z))) (zw (bif Zz iO (cI z) then (cI (UInt8.toNat (gD s 0 (0 : UInt8)))) == (48 :
 Int) else false) (kI ∧ iZ = xS s) (kI ∧ (cI z) = xS s)))))))))))))))) := by
 delta bF dK cI kI lZ lN gD iZ iO
 dsimp only
 intro hb
 simp only [sS, dS, xU]
 have dg2 : ∀ c : UInt8, (leB 48 (c.toNat : Int) && leB (c.toNat : Int) 57) = ZZ c := fun c => by rw [Bool.eq_iff_iff, Bool.and_eq_true, ZY, ZY, yy]; omega
 simp only [Bool.and_assoc, dg2]
 refine ⟨⟨0, ⟨Nat.zero_le _, fun i hi => absurd hi (Nat.not_lt_zero _)⟩, rfl⟩, fun z ⟨z1, z3⟩ => ⟨fun h => ?_, fun h => ?_, zT.2 ⟨fun c => ?_, fun c => ⟨fun h => ?_, ?_⟩⟩⟩⟩
 ·have := (zm _ _).1 h; exact ⟨by omega, by omega⟩
 ·rw [Bool.and_eq_true] at h; have := (zm _ _).1 h.1; exact ⟨by omega, by omega⟩
 ·rw [Bool.and_eq_true] at c
  have c1 := (zm _ _).1 c.1
  refine ⟨⟨by omega, by omega⟩, z + 1, ⟨⟨by omega, fun i hi => ?_⟩, by omega⟩, by omega⟩
  by_cases e : i = z
  ·rw [e]; exact c.2
  ·exact z3 i (by omega)
 ·have := (zm _ _).1 h; exact ⟨by omega, by omega⟩
 ·have h3 : z = s.length ∨ ZZ (s.getD z 0) = false := by
   by_cases q1 : z = s.length
   ·exact .inl q1
   ·rw [(zm _ _).2 (show (z : Int) < (s.length : Int) by omega), Bool.true_and] at c
    exact .inr c
  have ht := tE z1 z3 h3
  have hl : (YF s).length = z := by rw [ht, List.length_take]; omega
  have e1 : (Zz 1 (z : Int) && ((s.getD 0 0).toNat : Int) == 48) = (Nat.blt 1 z && s.getD 0 0 == 48) := by
   rw [show (((s.getD 0 0).toNat : Int) == 48) = (s.getD 0 0 == 48) from XQ (s.getD 0 0) 48 (by decide), show Zz 1 (z : Int) = Nat.blt 1 z from by rw [Bool.eq_iff_iff, zm, zf]; omega]
  rw [e1]
  unfold xS
  rw [hl]
  refine zT.2 ⟨fun k => ?_, fun k => ?_⟩
  ·rw [k]; rfl
  ·rw [k]; rfl
theorem Ql (s : List UInt8) (hl : s.length ≤ 9223372036854775807) : zV Tryz.prog [] 164 [.str s] (.i (xS s)) :=
 zW (T := T0) (an := rF s) mixed zN (Eq.mp (by kernel_rfl) (RF s hl))
theorem qB : zn Tryz.prog [] 164 UN := by
 intro xs ps r h hp
 unfold UN at h
 split at h
 ·skip
  rename_i s
  cases h
  obtain ⟨q0, -⟩ := Zr hp
  exact weaken (ys := [.str s]) ⟨zX _, trivial⟩ (Ql s q0)
 ·cases h
noncomputable def pU : Tb := (T0.plus 271 UF).body Tryz.prog [(224, .auto)]
theorem UR : zz Tryz.prog pU := zz.body mixed (zz.plus zN Qh) _
theorem Ro (s : zL) (hl : s.length ≤ 9223372036854775807) :
 Zw [AV.str s, AV.str [(47 : UInt8)]] → zw (leB iZ (Lib.indexByte s (47 : UInt8))) (bF (DB.db (iZ ≤ Lib.indexByte s (47 : UInt8) ∧ Lib.indexByte s (47 : UInt8) ≤ (lZ s))) (bF (dK (Lib.indexByte s (47 : UInt8) + (↑1 : Int))) (bF (DB.db (iZ ≤ Lib.indexByte s (47 : UInt8) + (↑1 : Int) ∧ Lib.indexByte s (47 : UInt8) + (↑1 : Int) ≤ (lZ s))) (3 = lN [AV.junk, AV.junk, AV.junk] ∧ ((True ∧ List.take (Int.toNat (Lib.indexByte s (47 : UInt8))) s = zR s) ∧ List.drop (Int.toNat (Lib.indexByte s (47 : UInt8) +
 (↑1 : Int))) s = zI s) ∧ true = zr s)))) (3 = lN [AV.junk, AV.junk, AV.junk] ∧ ((True ∧ s = zR s) ∧ bA #[] = zI s) ∧ false = zr s) := by
 delta bF dK bA lZ lN iZ
 intro hb
 simp only [sS, dS, xU]
 obtain ⟨h1, h2⟩ := Tx 47 s
 refine ⟨fun h => ?_, fun h => ?_⟩
 ·obtain ⟨z, e, z1, z2, z3⟩ := h1 h
  obtain ⟨c1, c2, c3⟩ := QS z1 z2 z3
  rw [e, c1, c2, c3, show ((z : Int)).toNat = z from rfl, show ((z : Int) + 1).toNat = z + 1 by omega]
  exact ⟨⟨by omega, by omega⟩, ⟨by omega, by omega⟩, ⟨by omega, by omega⟩, rfl, ⟨rfl, rfl⟩, rfl⟩
 ·obtain ⟨c1, c2, c3⟩ := SY (h2 h)
  rw [c1, c2, c3]
  exact ⟨rfl, ⟨rfl, rfl⟩, rfl⟩
def VF : List AV → Option (List zO × AV)
 | [.str s, .str p] => some ([.b (p == [47]), .p (s.length ≤ 9223372036854775807)], .tup 3 (zY [.str (zR s), .str (zI s), .b (zr s)]))
 | _ => none
theorem qJ : zn Tryz.prog [] 163 VF := by
 intro xs ps r h hp
 unfold VF at h
 split at h
 ·rename_i s p
  cases h
  have q : (p == [47]) = true := hp _ List.mem_cons_self
  have q1 : s.length ≤ 9223372036854775807 := hp _ (List.mem_cons_of_mem _ List.mem_cons_self)
  obtain rfl := eq_of_beq q
  exact zW mixed UR (Eq.mp (by kernel_rfl) (Ro s q1) : Vw Tryz.prog pU 163 (.auto) [.str s, .str [47]] (.tup 3 (zY [.str (zR s), .str (zI s), .b (zr s)])))
 ·cases h
theorem sK (t : zL) : ZX t = (Zt (zv t) && !(zE t && zv t == [48])) := by
 match t with
 | [] => rfl
 | c :: r =>
  by_cases hc : c = 45
  ·subst hc
   rfl
  ·have hm : zE (c :: r) = false := beq_eq_false_iff_ne.2 hc
   obtain ⟨h1, _, _⟩ := xp (a := c :: r) fun h => hc h.2
   rw [h1, hm, ← tS hm, Bool.false_and, Bool.not_false, Bool.and_true]
noncomputable def PE : Tb := ((T0.plus 163 VF).plus 144 (Yx fun s => .tup 2 (zY [.str (zv s), .b (zE s)]))).plus 164 UN
theorem TS : zz Tryz.prog PE := zz.plus (zz.plus (zz.plus zN qJ) qF) qB
def UL : List AV → Option (List zO × AV)
 | [.str a] => some ([.p (a.length ≤ 9223372036854775807)], .tup 2 (zY [.agg 2 (zY [.str (bif z6 a then zR a else []), .str (bif z6 a then (bif zr a then zI a else [49]) else [])]), .b (z6 a)]))
 | _ => none
theorem rj (a : List UInt8) (hl : a.length ≤ 9223372036854775807) :
 let q1 := (!zq false (xS (zv (zR a)) == iZ) || zq false (xS (zv (zR a)) == iZ)); let q3 := (bif xS (zv (zR a)) == iZ then true else Zz (xS (zv (zR a))) (lZ (zv (zR a)))); let q2 := (!zq false q3 || zq false q3); let q4 := (ByteArray.data (ByteArray.mk #[(48 : UInt8)])); let q5 := (j2 ∧ (True ∧ 2 = 2 ∧ (bA #[] = bif z6 a then zR a else []) ∧ bA #[] = bif z6 a then bif zr a then zI a else [(49 :
 UInt8)] else []) ∧ false = z6 a); let q6 := (zR a = bif z6 a then zR a else []); let q7 := (ByteArray.data (ByteArray.mk #[(49 : UInt8)])); let q8 := (!zq false (xS (zI a) == iZ) || zq false (xS (zI a) == iZ)); let q9 := (bif xS (zI a) == iZ then true else Zz (xS (zI a)) (lZ (zI a))); let q10 := (bif bif xS (zI a) == iZ then true else Zz (xS (zI a)) (lZ (zI a)) then true else zI a == Array.toList q4); Zw [AV.str a] → lN a ≤ nX ∧ lN (zv (zR a)) ≤
 nX ∧ bF q1 (bF q1 (bF q1 (bF (!!xS (zv (zR a)) == iZ || zq false (xS (zv (zR a)) == iZ)) (bF q2 (bF (!(zq false q3 && zq true (zE (zR a))) || zq false q3 && zq true (zE (zR a))) (bF q2 (bF (!zq false q3 || (!zE (zR a) || zq false q3 && zq true (zE (zR a)))) (bF ((!!bif xS (zv (zR a)) == iZ then true else Zz (xS (zv (zR a))) (lZ (zv (zR a)))) || zq false q3) (zw (bif bif xS (zv (zR a)) == iZ then true else Zz (xS (zv (zR a)))
 (lZ (zv (zR a))) then true else bif zE (zR a) then zv (zR a) == Array.toList q4 else false) q5 (zw (!zr a) (j2 ∧ (True ∧ 2 = 2 ∧ q6 ∧ Array.toList q7 = bif z6 a then bif zr a then zI a else [(49 : UInt8)] else []) ∧ true = z6 a) (lN (zI a) ≤ nX ∧ bF q8 (bF q8 (bF q8 (bF (!!xS (zI a) == iZ || zq false (xS (zI a) == iZ)) (bF (!zq false q9 || zq false q9) (bF ((!!bif xS (zI a) == iZ then true else Zz (xS (zI a)) (cI (List.length
 (zI a)))) || zq false q9) (bF (!zq false q10 || zq false q10) (bF ((!!bif bif xS (zI a) == iZ then true else Zz (xS (zI a)) (lZ (zI a)) then true else zI a == Array.toList q4) || zq false q10) (zw (bif bif bif xS (zI a) == iZ then true else Zz (xS (zI a)) (lZ (zI a)) then true else zI a == Array.toList q4 then true else zI a == Array.toList q7) q5 (j2 ∧ (True ∧ 2 = 2 ∧ q6 ∧ zI a = bif z6 a then bif zr a then zI a else [(49 : UInt8)] else []) ∧ true =
 z6 a)))))))))))))))))))) := by
 delta bF bA nX cI j2 lZ lN iZ
 dsimp only
 intro hb
 simp only [sS, dS, xU, rx]
 have hF : z6 a = (ZX (zR a) && (!zr a || Zt (zI a) && !(zI a == [48]) && !(zI a == [49]))) := rfl
 rw [sK] at hF
 have l1 := Sv a
 have l2 := V9 a
 have l3 := XY (zR a)
 generalize Zt (zv (zR a)) = p1 at *
 generalize (zE (zR a)) = p2 at *
 generalize (zv (zR a) == [48]) = p3 at *
 refine ⟨hl, by omega, ?_⟩
 refine vv (by cases p1 <;> cases p2 <;> rfl) ?_
 refine zT.2 ⟨fun c => ?_, fun c => zT.2 ⟨fun c2 => ?_, fun c2 => ⟨by omega, zT.2 ⟨fun c3 => ?_, fun c3 => ?_⟩⟩⟩⟩
 ·have e : z6 a = false := by
   rw [hF]
   revert c
   cases p1 <;> cases p2 <;> cases p3 <;> simp
  rw [e]
  exact ⟨rfl, ⟨rfl, rfl⟩, rfl⟩
 ·have hs : zr a = false := by simpa using c2
  have e : z6 a = true := by
   rw [hF, hs]
   revert c
   cases p1 <;> cases p2 <;> cases p3 <;> simp
  rw [e, hs]
  exact ⟨rfl, ⟨rfl, rfl⟩, rfl⟩
 ·have hs : zr a = true := by simpa using c2
  have e : z6 a = false := by
   rw [hF, hs]
   revert c3
   cases Zt (zI a) <;> cases zI a == [48] <;> cases zI a == [49] <;> simp
  rw [e]
  exact ⟨rfl, ⟨rfl, rfl⟩, rfl⟩
 ·have hs : zr a = true := by simpa using c2
  have e : z6 a = true := by
   rw [hF, hs]
   revert c c3
   cases Zt (zI a) <;> cases zI a == [48] <;> cases zI a == [49] <;> cases p1 <;> cases p2 <;> cases p3 <;> simp
  rw [e, hs]
  exact ⟨rfl, ⟨rfl, rfl⟩, rfl⟩
theorem qG (a : List UInt8) (hl : a.length ≤ 9223372036854775807) : zV Tryz.prog [] 113 [.str a] (.tup 2 (zY [.agg 2 (zY [.str (bif z6 a then zR a else []), .str (bif z6 a then (bif zr a then zI a else [49]) else [])]), .b (z6 a)])) :=
 zW (T := PE) (an := .auto) mixed TS (Eq.mp (by kernel_rfl) (rj a hl))
theorem Qc : zn Tryz.prog [] 113 UL := by
 intro xs ps r h hp
 unfold UL at h
 split at h
 ·skip
  rename_i a
  cases h
  obtain ⟨q0, -⟩ := Zr hp
  exact weaken (ys := [.str a]) ⟨zX _, trivial⟩ (qG a q0)
 ·cases h
end Go.Te

namespace Go.Te
open Go Go.Sx Go.Proofs Go.Ar
set_option maxRecDepth 100000
set_option maxHeartbeats 4000000
def Zx (a : zL) : zL := bif zr a then zI a else [49]
theorem Px {a : zL} (h : Zj a = 0) : YE (zR a) = 0 ∧ YE (Zx a) = 0 ∧ zu (zR a) = zU a ∧ zu (Zx a) = (zS a : Int) := by
 obtain ⟨h1, h2, h3, _⟩ := ZR.1 h
 have hi : ZX (zR a) = true := by
  unfold z6 at h1
  rw [Bool.and_eq_true] at h1
  exact h1.1
 refine ⟨Zh.2 ⟨hi, h2⟩, ?_, rfl, ?_⟩
 all_goals
  unfold Zx
  cases hs : zr a with
  | false =>
   first
    | (show YE [49] = 0; exact Zh.2 (by decide))
    | (unfold zS; rw [hs]; show zu [49] = ((1 : Nat) : Int); decide)
  | true =>
   unfold z6 at h1
   rw [hs] at h1
   have hd : Zt (zI a) = true := by
    revert h1
    cases Zt (zI a) <;> simp
   obtain ⟨i1, i2⟩ := wI hd
   first
    | exact Zh.2 ⟨i1, Nat.le_trans (wR _).1 h3⟩
    | (unfold zS; rw [hs]; exact i2)
theorem tD (g : Nat) : (Lib.itoa (g : Int) == [49]) = Nat.beq g 1 := by
 rw [Go.Ar.y6, Bool.eq_iff_iff, beq_iff_eq, Nat.beq_eq]
 constructor
 ·intro h
  have := congrArg zi h
  rw [Zm] at this
  exact this
 ·intro h
  rw [h, zH (by decide)]; rfl
theorem Z9 {a : zL} (h : zZ a = true) : Zj a = 0 ∧ (zU a).natAbs ≤ 99999999 ∧ zS a ≤ 99999999 ∧ 0 < zS a := by
 obtain ⟨h1, h2, h3, h4⟩ := YQ.1 h
 obtain ⟨g1, g2, g3⟩ := YU.1 h1
 have hr : Zj a = 0 := by
  unfold zZ at h
  rw [Bool.and_eq_true, Bool.and_eq_true, beq_iff_eq] at h
  exact h.1.1
 have b := xf g1 (k := 8) h2
 rw [show 10 ^ 8 = 100000000 from by decide] at b
 refine ⟨hr, by rw [uz]; omega, ?_, yN (ZR.1 hr).1⟩
 rw [(Xv (a := a)).2]
 cases hs : zr (zv a) with
 | false => show 1 ≤ 99999999; decide
 | true =>
  have b := xf (g3 hs).1 (k := 8) h3
  rw [show 10 ^ 8 = 100000000 from by decide] at b
  simp only [cond_true]
  omega
theorem te {a : zL} (h : Zj a = 0) : (zR a).length ≤ Wd (zU a) + 1 ∧ (Zx a).length = Lib.nDigits (zS a) ∧ a.length ≤ Wd (zU a) + Lib.nDigits (zS a) + 2 := by
 have hf := (ZR.1 h).1
 have hp := yN hf
 have e : a = yq (zU a) (zS a) := (WP hf).symm
 obtain ⟨s1, s2, s3, s4, s5⟩ := y8 (zU a) hp
 rw [← e] at s4 s5
 have l1 := (wR (zR a)).2
 have l3 : (Zx a).length = Lib.nDigits (zS a) := by
  obtain ⟨_, v2, _, v4⟩ := Px h
  obtain ⟨i1, _⟩ := Zh.1 v2
  have h5 := YR i1
  rw [v4, Go.Ar.y6] at h5
  rw [← h5, Lib.decDigits_length]
 refine ⟨by omega, l3, ?_⟩
 have : a.length = (yq (zU a) (zS a)).length := congrArg List.length e
 rw [this]
 unfold yq
 rw [List.length_append, YS]
 have b2 : (bif Nat.beq (zS a) 1 then [] else 47 :: Lib.decDigits (zS a)).length ≤ 1 + Lib.nDigits (zS a) := by
  cases Nat.beq (zS a) 1 with
  | true => simp
  | false => rw [cond_false, List.length_cons, Lib.decDigits_length]; omega
 split <;> omega
theorem WV {a : zL} (h : zZ a = true) : a.length ≤ 18 ∧ (zR a).length ≤ 9 ∧ (Zx a).length ≤ 8 := by
 obtain ⟨h1, h2, h3, _⟩ := Z9 h
 obtain ⟨l1, l2, l3⟩ := te h1
 have a1 : Wd (zU a) ≤ 8 := Y3 (by decide) (Nat.lt_of_le_of_lt h2 (by decide))
 have a2 : Lib.nDigits (zS a) ≤ 8 := (yx (by decide)).2 (Nat.lt_of_le_of_lt h3 (by decide))
 omega
theorem RZ {a : zL} (h : Zj a = 0) (hn : (zU a).natAbs ≤ 99999999) (hd : zS a ≤ 99999999) : zZ a = true := by
 obtain ⟨_, o2, _, _, o5, _, _⟩ := yU a
 have hf := (ZR.1 h).1
 have hp := yN hf
 have e : a = yq (zU a) (zS a) := (WP hf).symm
 obtain ⟨s1, s2, s3, s4, s5⟩ := y8 (zU a) hp
 rw [← e] at s4 s5
 have a1 : Wd (zU a) ≤ 8 := Y3 (by decide) (Nat.lt_of_le_of_lt hn (by decide))
 have a2 : Lib.nDigits (zS a) ≤ 8 := (yx (by decide)).2 (Nat.lt_of_le_of_lt hd (by decide))
 unfold zZ
 rw [h, Bool.and_eq_true, Bool.and_eq_true, ZY, ZY]
 have q1 : (zR (zv a)).length ≤ 8 := by rw [← o5, s4]; exact a1
 have q2 : (zI (zv a)).length ≤ 8 := by rw [← o2, s5]; split <;> omega
 exact ⟨⟨rfl, by omega⟩, by omega⟩
theorem UZ {n : Int} {d : Nat} (hd : 0 < d) (hn : n.natAbs ≤ 99999999) (hd2 : d ≤ 99999999) : zZ (zt n d) = true := by
 obtain ⟨p1, p2, p3, p4⟩ := yQ n hd
 obtain ⟨q1, q2, _⟩ := xR (n := n) hd
 have hnv : ((Nat.gcd n.natAbs d : Nat) : Int) ∣ n := Int.ofNat_dvd_left.2 (Nat.gcd_dvd_left _ _)
 have hn2 : (n / (Nat.gcd n.natAbs d : Int)).natAbs ≤ n.natAbs := by
  rw [← Int.tdiv_eq_ediv_of_dvd hnv]
  exact Int.natAbs_tdiv_le_natAbs n _
 have hd3 : d / Nat.gcd n.natAbs d ≤ d := Nat.div_le_self _ _
 obtain ⟨s1, s2, s3, s4, s5⟩ := y8 (n / (Nat.gcd n.natAbs d : Int)) q2
 have a1 : Wd (n / (Nat.gcd n.natAbs d : Int)) ≤ 8 := Y3 (by decide) (Nat.lt_of_le_of_lt hn2 (Nat.lt_of_le_of_lt hn (by decide)))
 have a2 : Lib.nDigits (d / Nat.gcd n.natAbs d) ≤ 8 := (yx (by decide)).2 (by omega)
 refine RZ (ZR.2 ⟨p1, ?_, ?_, p4⟩) (by rw [p2]; omega) (by rw [p3]; omega)
 ·show Yu (zR (yq _ _)) ≤ 300
  rw [s4]; omega
 ·show (zI (yq _ _)).length ≤ 300
  rw [s5]; split <;> omega
def p7 (r : AV) : List AV → Option (List zO × AV) := fun _ => some ([.p False], r)
theorem TY {P : Program} {G : List (Nat × Obj)} {f : FuncId} (r : AV) : zn P G f (p7 r) := by
 intro xs ps r' h hp
 cases h
 exact (hp _ List.mem_cons_self).elim
def Wh (a : zL) : Prop := Zj a = 0 ∧ (zZ a = true ∨ zr a = false)
theorem ws {a : zL} (h : zZ a = true) : Wh a := ⟨(Z9 h).1, .inl h⟩
theorem rh {a : zL} (h : Wh a) : a.length ≤ 700 := by
 obtain ⟨_, _, l3⟩ := te h.1
 obtain ⟨_, h2, h3, _⟩ := ZR.1 h.1
 have l1 := (wR (zR a)).2
 have l2 := V9 a
 by_cases hs : zr a = true
 ·have := congrArg List.length (xy hs)
  rw [List.length_append, List.length_cons] at this
  omega
 ·have := (Z6 (Bool.eq_false_iff.2 hs)).1
  rw [this] at l1 h2
  omega
def PF : Tb := ((((T0).plus 113 UL).plus 65 Uh).plus 114 (Yx fun s => .str (zv s))).plus 102 (p7 (.tup 2 (zY [.str [], .i 0])))
theorem Tr : zz Tryz.prog PF := zz.plus (zz.plus (zz.plus (zz.plus zN Qc) QU) wt) (TY _)
def V2 : List AV → Option (List zO × AV)
 | [.str a] => some ([.p (Wh a)], .tup 2 (zY [.agg 2 (zY [.str (zR a), .str (Zx a)]), .i 0]))
 | _ => none
theorem SQ (a : List UInt8) (hr : Wh a) :
 let q1 := (True ∧ 2 = 2 ∧ bA #[] = zR a ∧ bA #[] = Zx a); let q3 := (bif z6 a then bif zr a then zI a else [(49 : UInt8)] else []); let q2 := (j2 ∧ (True ∧ 2 = 2 ∧ (bif z6 a then zR a else []) = zR a ∧ q3 = Zx a) ∧ kI ∧ iZ = iZ); let q6 := (lZ (zv (bif z6 a then zR a else []))); let q5 := (Zz (300 : Int) q6); let q4 := (!zq false q5 || zq false q5); Zw [AV.str a] → lN a ≤
 nX ∧ zw (!z6 a) (j2 ∧ q1 ∧ kI ∧ (11 : Int) = iZ) (lN a ≤ nX ∧ zw (zZ a) q2 (bF q4 (bF q4 (bF q4 (bF (!!Zz (300 : Int) q6 || zq false q5) (zw (bif Zz (300 : Int) q6 then true else Zz (300 : Int) (lZ q3)) (j2 ∧ q1 ∧ kI ∧ (4 : Int) = iZ) (zw (q3 == bA #[(49 : UInt8)]) q2 (False ∧ j2 ∧ q1 ∧ kI ∧ (11 :
 Int) = iZ)))))))) := by
 delta bF bA nX kI j2 lZ lN iZ
 dsimp only
 intro hb
 simp only [sS, dS, xU]
 have hl := rh hr
 obtain ⟨h1, h2⟩ := hr
 obtain ⟨f1, f2, f3, f4⟩ := ZR.1 h1
 have hden : (bif zr a then zI a else [49]) = Zx a := rfl
 obtain ⟨o1, o2, o3, o4, o5, o6, o7⟩ := yU a
 have hlen : (zv (zR a)).length = (zR (zv a)).length := by rw [← (tH (zR a)).2, o5]
 simp only [f1, cond_true, hden]
 refine ⟨by omega, zT.2 ⟨fun c => by simp at c, fun _ => ⟨by omega, zT.2 ⟨fun k => ⟨rfl, trivial, trivial⟩, fun k => zT.2 ⟨fun k2 => ?_, fun k2 => zT.2 ⟨fun k3 => ⟨rfl, trivial, trivial⟩, fun k3 => ?_⟩⟩⟩⟩⟩⟩
 ·rw [Bool.or_eq_true, zm, zm, hlen] at k2
  rw [o5] at f2
  have : (Zx a).length ≤ 300 := by unfold Zx; cases zr a with | true => exact f3 | false => exact (by decide : ([49] : zL).length ≤ 300)
  omega
 ·rw [h2.resolve_left (by rw [k]; decide)] at hden
  rw [← hden] at k3
  cases k3
theorem rI (a : List UInt8) (hr : Wh a) : zV Tryz.prog [] 67 [.str a] (.tup 2 (zY [.agg 2 (zY [.str (zR a), .str (Zx a)]), .i 0])) :=
 zW (T := PF) (an := .auto) mixed Tr (Eq.mp (by kernel_rfl) (SQ a hr))
theorem R0 : zn Tryz.prog [] 67 V2 := by
 intro xs ps r h hp
 unfold V2 at h
 split at h
 ·skip
  rename_i a
  cases h
  obtain ⟨q0, -⟩ := Zr hp
  exact weaken (ys := [.str a]) ⟨zX _, trivial⟩ (rI a q0)
 ·cases h
noncomputable def PO : Tb := T0.plus 67 V2
theorem vr : zz Tryz.prog PO := zz.plus zN R0
def wF : List AV → Option (List zO × AV)
 | [.str a] => some ([.p (Wh a)], .i 0)
 | _ => none
theorem rk (a : List UInt8) (hr : Wh a) :
 Zw [AV.str a] → (Zj a = iZ ∧ (zZ a = true ∨ zr a = false)) ∧ kI ∧ iZ = iZ := by
 delta kI iZ
 intro hb
 simp only [sS, dS]
 exact hr
theorem qO (a : List UInt8) (hr : Wh a) : zV Tryz.prog [] 79 [.str a] (.i 0) :=
 zW (T := PO) (an := .auto) mixed vr (Eq.mp (by kernel_rfl) (rk a hr))
theorem UI : zn Tryz.prog [] 79 wF := by
 intro xs ps r h hp
 unfold wF at h
 split at h
 ·skip
  rename_i a
  cases h
  obtain ⟨q0, -⟩ := Zr hp
  exact weaken (ys := [.str a]) ⟨zX _, trivial⟩ (qO a q0)
 ·cases h
def Xt : List AV → Option (List zO × AV)
 | [.str a] => some ([.p (Wh a)], .tup 3 (zY [.str (zR a), .str (Zx a), .i 0]))
 | _ => none
theorem TD (a : List UInt8) (hr : Wh a) :
 Zw [AV.str a] → (Zj a = iZ ∧ (zZ a = true ∨ zr a = false)) ∧ 3 = lN [AV.junk, AV.junk, AV.junk] ∧ ((True ∧ zR a = zR a) ∧ Zx a = Zx a) ∧ kI ∧ iZ = iZ := by
 delta kI lN iZ
 intro hb
 simp only [sS, dS]
 exact ⟨hr, rfl⟩
theorem So (a : List UInt8) (hr : Wh a) : zV Tryz.prog [] 134 [.str a] (.tup 3 (zY [.str (zR a), .str (Zx a), .i 0])) :=
 zW (T := PO) (an := .auto) mixed vr (Eq.mp (by kernel_rfl) (TD a hr))
theorem uE : zn Tryz.prog [] 134 Xt := by
 intro xs ps r h hp
 unfold Xt at h
 split at h
 ·skip
  rename_i a
  cases h
  obtain ⟨q0, -⟩ := Zr hp
  exact weaken (ys := [.str a]) ⟨zX _, trivial⟩ (So a q0)
 ·cases h
def V0 : List AV → Option (List zO × AV)
 | [.str a] => some ([.p (zZ a = true)], .tup 2 (zY [.agg 2 (zY [.i (zU a), .i (zS a : Int)]), .b true]))
 | _ => none
theorem R9 : zn Tryz.prog [] 65 V0 := by
 intro xs ps r h hp
 unfold V0 at h
 split at h
 ·rename_i a
  cases h
  have q : zZ a = true := hp _ List.mem_cons_self
  have := Si a (by have := (WV q).1; omega)
  rw [q] at this
  exact this
 ·cases h
end Go.Te
