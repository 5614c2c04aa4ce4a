/- kingpostref02: Compare. -/
import Derived.Test.YtdkpceodckdcfaaGreatDoorTeOa
import Derived.Test.YtdkpceodckdcfaaGreatDoorTeFb
set_option linter.unusedSimpArgs false
set_option linter.unusedVariables false
namespace Go.Te
open Go Go.Sx Go.Proofs Go.Ar
set_option maxRecDepth 100000
set_option maxHeartbeats 4000000
def WU : List AV → Option (List zN × AV)
 | [.str a, .str b] => some ([.p (a.length ≤ 100000000), .p (b.length ≤ 100000000)], .i (bif zo a != 0 then zo a else zo b))
 | _ => none
theorem nh (G : List (Nat × Obj)) (a : List UInt8) (b : List UInt8) (hla : a.length ≤ 100000000) (hlb : b.length ≤ 100000000) :
 zB [AV.str a, AV.str b] → lN a ≤ 100000000 ∧ zZ (zo a != iZ) (kI ∧ zo a = bif zo a != iZ then zo a else zo b) (lN b ≤ 100000000 ∧ kI ∧ zo b = bif zo a != iZ then zo a else zo b) := by
 delta kI lN iZ
 intro hb
 simp only [sS, dS, Ze]
 refine ⟨hla, fun h => by rw [bne_iff_ne.2 h]; rfl, fun h => ⟨hlb, by rw [h]; rfl⟩⟩
theorem Lr {G : List (Nat × Obj)} (hG : zM G) (a : List UInt8) (b : List UInt8) (hla : a.length ≤ 100000000) (hlb : b.length ≤ 100000000) : zS Tryz.prog G 50 [.str a, .str b] (.i (bif zo a != 0 then zo a else zo b)) :=
 zV (T := (wn G).plus 12 X6) (an := .auto) mixed (zY.plus zr (VG hG)) (Eq.mp (by kernel_rfl) (nh G a b hla hlb))
theorem UG {G : List (Nat × Obj)} (hG : zM G) : zQ Tryz.prog G 50 WU := by
 intro xs ps r h hp
 unfold WU at h
 split at h
 ·skip
  rename_i a b
  cases h
  obtain ⟨q0, q1, -⟩ := Zx hp
  exact weaken (ys := [.str a, .str b]) ⟨zX _, zX _, trivial⟩ (Lr hG a b q0 q1)
 ·cases h
def Y7 (a : zh) : Bool := leB ((zO (zR a)).length : Int) 9 && leB ((zG (zR a)).length : Int) 9
theorem GO {a b : zh} (h : zo a ≠ 0) : 0 = wD a b ∧ zo a = Yw a b := by
 have e : Yw a b = zo a := by unfold Yw; rw [bne_iff_ne.2 h]; rfl
 unfold wD
 rw [e, beq_eq_false_iff_ne.2 h]
 exact ⟨rfl, rfl⟩
theorem GP {a b : zh} (h0 : zo a = 0) (h : zo b ≠ 0) : 0 = wD a b ∧ zo b = Yw a b := by
 have e : Yw a b = zo b := by unfold Yw; rw [h0, bne_iff_ne.2 h]; rfl
 unfold wD
 rw [e, beq_eq_false_iff_ne.2 h]
 exact ⟨rfl, rfl⟩
theorem GY {a b : zh} (h0 : zo a = 0) (h1 : zo b = 0) (h : ZZ (zL a * (zP b : Int)) ≠ 0) : 0 = wD a b ∧ ZZ (zL a * (zP b : Int)) = Yw a b := by
 have e : Yw a b = ZZ (zL a * (zP b : Int)) := by unfold Yw; rw [h0, h1, bne_iff_ne.2 h]; rfl
 unfold wD
 rw [e, beq_eq_false_iff_ne.2 h]
 exact ⟨rfl, rfl⟩
theorem JA {a b : zh} (h0 : zo a = 0) (h1 : zo b = 0) (h : ZZ (zL a * (zP b : Int)) = 0) : Yw a b = ZZ (zL b * (zP a : Int)) := by
 unfold Yw; rw [h0, h1, h]; rfl
theorem kx {a b : zh} (h : Yw a b = 0) : wD a b = Xt (zL a * (zP b : Int)) (zL b * (zP a : Int)) := by unfold wD; rw [h]; rfl
theorem PR {n : Int} (h : ZZ n = 0) : (yq n).length ≤ 301 := by
 have e : yq n = Lib.itoa n := by unfold yq; rw [h]; rfl
 rw [e, Yf]
 have : ¬ 300 < Vk n := fun e => by unfold ZZ at h; rw [(zC _ _).2 e] at h; cases h
 split <;> omega
theorem W7 {a : zh} (h : zo a = 0) : (Zo a).length ≤ 301 := by
 have := (Zu.1 h).2.2.1
 unfold Zo
 cases zJ a <;> simp <;> omega
theorem Re {a : zh} (h : zo a = 0) : Xp a = true := by
 cases hf : Xp a with
 | true => rfl
 | false => rw [Vm hf] at h; cases h
theorem Xg {a : zh} (hr : zo a = 0) (h : Y7 a = true) : (zL a).natAbs ≤ 999999999 ∧ zP a ≤ 999999999 := by
 obtain ⟨g1, g2, g3⟩ := YE.1 (Re hr)
 unfold Y7 at h
 rw [Bool.and_eq_true, zF, zF] at h
 have b := yd g1 (k := 9) (by omega)
 rw [show 10 ^ 9 = 1000000000 from by decide] at b
 refine ⟨by rw [WT]; omega, ?_⟩
 rw [(uC (a := a)).2]
 cases hs : zJ (zR a) with
 | false => show 1 ≤ 999999999; decide
 | true =>
  have b := yd (g3 hs).1 (k := 9) (by omega)
  rw [show 10 ^ 9 = 1000000000 from by decide] at b
  simp only [cond_true]
  omega
def WJ : List AV → Option (List zN × AV)
 | [.str a] => some ([.p (a.length ≤ 4294967280), .p (zo a = 0)], .tup 3 (zT [.i (bif Y7 a then zL a else 0), .i (bif Y7 a then (zP a : Int) else 0), .b (Y7 a)]))
 | _ => none
theorem nv (a : List UInt8) (hl : a.length ≤ 4294967280) (hr : zo a = 0) :
 let q2 := (zn (9 : Int) (lZ (zO (zR a)))); let q1 := (!zU false q2 || zU false q2); let q3 := (DB.db (YZ .i64 (-(cI (zk (zO (zR a))))))); let q4 := (True ∧ kI ∧ -(cI (zk (zO (zR a)))) = bif Y7 a then zL a else iZ); let q5 := (True ∧ kI ∧ (cI (zk (zO (zR a)))) = bif Y7 a then zL a else iZ); zB [AV.str a] → lN a ≤ nM ∧ bF q1 (zZ q1 (bF (!!zn (9 : Int) (lZ (zO (zR a))) || zU false q2) (zZ (bif zn (9 : Int) (lZ (zO
 (zR a))) then true else zn (9 : Int) (lZ (zG (zR a)))) (3 = lN [AV.junk, AV.junk, AV.junk] ∧ ((True ∧ kI ∧ iZ = bif Y7 a then zL a else iZ) ∧ kI ∧ iZ = bif Y7 a then (cI (zP a)) else iZ) ∧ false = Y7 a) (Zw (zO (zR a)) = true ∧ lN (zO (zR a)) ≤ 18 ∧ zZ (zJ (zR a)) (Zw (zG (zR a)) = true ∧ lN (zG (zR a)) ≤ 18 ∧ zZ (zd a) (bF q3 (3 = lN [AV.junk, AV.junk, AV.junk] ∧ (q4 ∧ kI ∧ (↑(zk (zG (zR a))) :
 Int) = bif Y7 a then (cI (zP a)) else iZ) ∧ true = Y7 a)) (3 = lN [AV.junk, AV.junk, AV.junk] ∧ (q5 ∧ kI ∧ (cI (zk (zG (zR a)))) = bif Y7 a then (cI (zP a)) else iZ) ∧ true = Y7 a)) (zZ (zd a) (bF q3 (3 = lN [AV.junk, AV.junk, AV.junk] ∧ (q4 ∧ kI ∧ iO = bif Y7 a then (cI (zP a)) else iZ) ∧ true = Y7 a)) (3 = lN [AV.junk, AV.junk, AV.junk] ∧ (q5 ∧ kI ∧ iO = bif Y7 a then (cI (zP a)) else iZ) ∧ true = Y7 a)))))
 False) := by
 delta bF nM cI kI lZ lN iZ iO
 dsimp only
 intro hb
 simp only [sS, dS, Ze]
 obtain ⟨g1, g2, g3⟩ := YE.1 (Re hr)
 obtain ⟨w1, w2⟩ := uC (a := a)
 have e9 : (zn 9 ((zO (zR a)).length : Int) || zn 9 ((zG (zR a)).length : Int)) = !Y7 a := by
  unfold Y7
  rw [Bool.eq_iff_iff, Bool.or_eq_true, zq, zq, Bool.not_eq_true', Bool.and_eq_false_iff, Bool.eq_false_iff, Bool.eq_false_iff, Ne, Ne, zF, zF]
  omega
 rw [e9, w1, w2]
 refine ⟨hl, zu.2 ⟨fun c => ?_, fun c => ?_⟩⟩
 ·rw [Bool.not_eq_true'] at c
  rw [c]
  exact ⟨rfl, ⟨rfl, rfl⟩, rfl⟩
 ·rw [Bool.not_eq_false'] at c
  obtain ⟨s1, s2⟩ := Xg hr c
  rw [WT] at s1
  have c' := c
  unfold Y7 at c'
  rw [Bool.and_eq_true, zF, zF] at c'
  rw [c]
  simp only [cond_true]
  refine ⟨g1, by omega, zu.2 ⟨fun hs => ⟨(g3 hs).1, by omega, zu.2 ⟨fun hm => ⟨⟨by omega, by omega⟩, rfl, ⟨?_, ?_⟩, trivial⟩, fun hm => ⟨rfl, ⟨?_, ?_⟩, trivial⟩⟩⟩, fun hs => zu.2 ⟨fun hm => ⟨⟨by omega, by omega⟩, rfl, ⟨?_, ?_⟩, trivial⟩, fun hm => ⟨rfl, ⟨?_, ?_⟩, trivial⟩⟩⟩⟩
  all_goals first | (rw [hm]; rfl) | (rw [hs]; rfl)
theorem ND (a : List UInt8) (hl : a.length ≤ 4294967280) (hr : zo a = 0) : zS Tryz.prog [] 51 [.str a] (.tup 3 (zT [.i (bif Y7 a then zL a else 0), .i (bif Y7 a then (zP a : Int) else 0), .b (Y7 a)])) :=
 zV (T := (T0.plus 45 wZ).plus 48 X2) (an := .auto) mixed (zY.plus (zY.plus zr Vd) V9) (Eq.mp (by kernel_rfl) (nv a hl hr))
theorem UJ : zQ Tryz.prog [] 51 WJ := by
 intro xs ps r h hp
 unfold WJ at h
 split at h
 ·skip
  rename_i a
  cases h
  obtain ⟨q0, q1, -⟩ := Zx hp
  exact weaken (ys := [.str a]) ⟨zX _, trivial⟩ (ND a q0 q1)
 ·cases h
def wR : List AV → Option (List zN × AV)
 | [.str a] => some ([.p (a.length ≤ 4294967280)], .tup 2 (zT [.str (zO a), .str (Zo a)]))
 | _ => none
theorem Qw (a : List UInt8) (hl : a.length ≤ 4294967280) :
 zB [AV.str a] → lN a ≤ nM ∧ zZ (zd a) (bF (DB.db (1 + lN (zO (zR a)) ≤ nX)) (zZ (!zJ (zR a)) (j2 ∧ (True ∧ bA #[(45 : UInt8)] ++ zO (zR a) = zO a) ∧ bA #[(49 : UInt8)] = Zo a) (j2 ∧ (True ∧ bA #[(45 : UInt8)] ++ zO (zR a) = zO a) ∧ zG (zR a) = Zo a))) (zZ (!zJ (zR a)) (j2 ∧
 (True ∧ zO (zR a) = zO a) ∧ bA #[(49 : UInt8)] = Zo a) (j2 ∧ (True ∧ zO (zR a) = zO a) ∧ zG (zR a) = Zo a)) := by
 delta bF bA nX nM j2 lN
 intro hb
 simp only [sS, dS, Ze]
 obtain ⟨o1, o2, o3, _⟩ := Y1 a
 have l1 := Yy (zR a)
 have l2 := X5 a
 unfold Zo
 rw [o1, o2, o3]
 refine ⟨hl, zu.2 ⟨fun c => ⟨by omega, zu.2 ⟨fun h => ?_, fun h => ?_⟩⟩, fun c => zu.2 ⟨fun h => ?_, fun h => ?_⟩⟩⟩
 ·rw [c, show zJ (zR a) = false by rw [Bool.not_eq_true'] at h; exact h]; exact ⟨rfl, rfl, rfl⟩
 ·rw [c, show zJ (zR a) = true by rw [Bool.not_eq_false'] at h; exact h]; exact ⟨rfl, rfl, rfl⟩
 ·rw [c, show zJ (zR a) = false by rw [Bool.not_eq_true'] at h; exact h]; exact ⟨rfl, rfl, rfl⟩
 ·rw [c, show zJ (zR a) = true by rw [Bool.not_eq_false'] at h; exact h]; exact ⟨rfl, rfl, rfl⟩
theorem Ou (a : List UInt8) (hl : a.length ≤ 4294967280) : zS Tryz.prog [] 52 [.str a] (.tup 2 (zT [.str (zO a), .str (Zo a)])) :=
 zV (T := T0.plus 45 wZ) (an := .auto) mixed (zY.plus zr Vd) (Eq.mp (by kernel_rfl) (Qw a hl))
theorem uZ : zQ Tryz.prog [] 52 wR := by
 intro xs ps r h hp
 unfold wR at h
 split at h
 ·skip
  rename_i a
  cases h
  obtain ⟨q0, -⟩ := Zx hp
  exact weaken (ys := [.str a]) ⟨zX _, trivial⟩ (Ou a q0)
 ·cases h
noncomputable def Hi (G : List (Nat × Obj)) : Tb := (((((wn G).plus 50 WU).plus 51 WJ).plus 52 wR).plus 107 uB).plus 54 rQ
theorem QY {G : List (Nat × Obj)} (hG : zM G) : zY Tryz.prog (Hi G) := zY.plus (zY.plus (zY.plus (zY.plus (zY.plus zr (UG hG)) (zQ.mono UJ)) (zQ.mono uZ)) (PH hG)) (jI hG)
noncomputable def gp (G : List (Nat × Obj)) : Tb := (Hi G).body Tryz.prog [(53, .auto)]
theorem Q4 {G : List (Nat × Obj)} (hG : zM G) : zY Tryz.prog (gp G) := zY.body mixed (QY hG) _
def u7 : List AV → Option (List zN × AV)
 | [.str a, .str b] => some ([.p (a.length ≤ 100000000), .p (b.length ≤ 100000000)], .tup 2 (zT [.i (wD a b), .i (Yw a b)]))
 | _ => none
theorem Nu (G : List (Nat × Obj)) (a : List UInt8) (b : List UInt8) (hla : a.length ≤ 100000000) (hlb : b.length ≤ 100000000) :
 let q1 := (bif zo a != iZ then zo a else zo b); let q2 := (True ∧ kI ∧ iZ = wD a b); let q4 := ((bif Y7 a then zL a else iZ) * bif Y7 b then (cI (zP b)) else iZ); let q3 := (dK q4); let q6 := ((bif Y7 b then zL b else iZ) * bif Y7 a then (cI (zP a)) else iZ); let q5 := (dK q6); let q7 := (yZ (fun (x1 x2 : Int) => x1 * x2) (zO a) (Zo b) != iZ); let q8 := (bA #[]); let q9 := (y5 (fun (x1 x2 : Int) => x1 * x2) (zO a) (Zo b));
 let q10 := (y5 (fun (x1 x2 : Int) => x1 * x2) (zO b) (Zo a)); zB [AV.str a, AV.str b] → lN a ≤ 100000000 ∧ lN b ≤ 100000000 ∧ zZ (q1 != iZ) (j2 ∧ q2 ∧ kI ∧ q1 = Yw a b) (lN a ≤ nM ∧ zo a = iZ ∧ lN b ≤ nM ∧ zo b = iZ ∧ bF (!Y7 a || zU true (Y7 a)) (zZ (bif Y7 a then Y7 b else false) (bF q3 (bF q5 (zZ (zn q4 q6) (j2 ∧ (True ∧ kI ∧ (-1 : Int) = wD a b) ∧ kI ∧ iZ =
 Yw a b) (bF q3 (bF q5 (zZ (zn q6 q4) (j2 ∧ (True ∧ kI ∧ iO = wD a b) ∧ kI ∧ iZ = Yw a b) (j2 ∧ q2 ∧ kI ∧ iZ = Yw a b))))))) (lN a ≤ nM ∧ lN b ≤ nM ∧ lN (zO a) ≤ 100000000 ∧ lN (Zo b) ≤ 100000000 ∧ zZ q7 (zZ q7 (j2 ∧ q2 ∧ kI ∧ yZ (fun (x1 x2 : Int) => x1 * x2) (zO a) (Zo b) = Yw a b) (0 ≤ 100000000 ∧ 0 ≤
 100000000 ∧ j2 ∧ (True ∧ kI ∧ Xl q8 q8 = wD a b) ∧ kI ∧ zI q8 q8 = Yw a b)) (lN (zO b) ≤ 100000000 ∧ lN (Zo a) ≤ 100000000 ∧ zZ (yZ (fun (x1 x2 : Int) => x1 * x2) (zO b) (Zo a) != iZ) (j2 ∧ q2 ∧ kI ∧ yZ (fun (x1 x2 : Int) => x1 * x2) (zO b) (Zo a) = Yw a b) (lN q9 ≤ 100000000 ∧ lN q10 ≤ 100000000 ∧ j2 ∧ (True ∧ kI ∧ Xl q9 q10 = wD a b) ∧ kI ∧ zI q9
 q10 = Yw a b))))) := by
 delta bF dK bA nM cI kI j2 lN iZ iO
 dsimp only
 intro hb
 simp only [sS, dS, Ze]
 have ncd := Yy a
 have ncb := Yy b
 refine ⟨hla, hlb, fun h => ?_, fun h => ?_⟩
 ·by_cases h0 : zo a = 0
  ·have h1 : zo b ≠ 0 := fun e => h (by rw [h0, e]; rfl)
   rw [h0]
   exact ⟨rfl, GP h0 h1⟩
  ·rw [bne_iff_ne.2 h0]
   exact ⟨rfl, GO h0⟩
 have h0 : zo a = 0 := by
  refine Decidable.byContradiction fun e => ?_
  rw [bne_iff_ne.2 e] at h
  exact e h
 have h1 : zo b = 0 := by rw [h0] at h; exact h
 refine ⟨by omega, h0, by omega, h1, zu.2 ⟨fun c => ?_, fun c => ?_⟩⟩
 ·rw [Bool.and_eq_true] at c
  obtain ⟨a2, a3⟩ := Xg h0 c.1
  obtain ⟨b2, b3⟩ := Xg h1 c.2
  rw [c.1, c.2]
  simp only [cond_true]
  have m1 : (zL a * (zP b : Int)).natAbs ≤ 999999999 * 999999999 := by rw [Int.natAbs_mul, Int.natAbs_natCast]; exact Nat.mul_le_mul a2 b3
  have m2 : (zL b * (zP a : Int)).natAbs ≤ 999999999 * 999999999 := by rw [Int.natAbs_mul, Int.natAbs_natCast]; exact Nat.mul_le_mul b2 a3
  obtain ⟨r1, r2⟩ := ZW (n := zL a * (zP b : Int)) (k := 20) (by omega) (by omega) (by omega)
  obtain ⟨r3, r4⟩ := ZW (n := zL b * (zP a : Int)) (k := 20) (by omega) (by omega) (by omega)
  have e := JA h0 h1 r2
  rw [r4] at e
  rw [kx e, e]
  unfold Xt
  generalize zL a * (zP b : Int) = x at *
  generalize zL b * (zP a : Int) = y at *
  refine ⟨⟨by omega, by omega⟩, ⟨by omega, by omega⟩, fun h => ?_, fun h => ⟨⟨by omega, by omega⟩, ⟨by omega, by omega⟩, fun h2 => ?_, fun h2 => ?_⟩⟩
  ·rw [(zq _ _).2 h]; exact ⟨rfl, rfl, rfl⟩
  ·rw [show zn x y = false from Bool.eq_false_iff.2 fun e => by have := (zq _ _).1 e; omega, beq_eq_false_iff_ne.2 (by omega)]; exact ⟨rfl, rfl, rfl⟩
  ·rw [show x = y by omega, show zn y y = false from Bool.eq_false_iff.2 fun e => by have := (zq _ _).1 e; omega, beq_self_eq_true]; exact ⟨rfl, rfl, rfl⟩
 ·obtain ⟨p1, p2⟩ := I6 h0 h1
  obtain ⟨p3, p4⟩ := I6 h1 h0
  have dla := W7 h0
  have dlb := W7 h1
  simp only [p1, p2, p3, p4]
  refine ⟨by omega, by omega, by omega, by omega, fun h => ⟨fun _ => ⟨rfl, GY h0 h1 h⟩, fun h2 => absurd h2 h⟩, fun h => ⟨by omega, by omega, fun h2 => ?_, fun h2 => ?_⟩⟩
  ·have e := JA h0 h1 h
   unfold wD
   rw [e, beq_eq_false_iff_ne.2 h2]
   exact ⟨rfl, rfl, rfl⟩
  ·have e := JA h0 h1 h
   rw [h2] at e
   obtain ⟨q1, q2, _⟩ := Pl h h2
   have q3 := PR h
   have q4 := PR h2
   rw [kx e, e, q1, q2]
   exact ⟨by omega, by omega, rfl, rfl, rfl⟩
theorem Kq {G : List (Nat × Obj)} (hG : zM G) (a : List UInt8) (b : List UInt8) (hla : a.length ≤ 100000000) (hlb : b.length ≤ 100000000) : zS Tryz.prog G 14 [.str a, .str b] (.tup 2 (zT [.i (wD a b), .i (Yw a b)])) :=
 zV (T := gp G) (an := .auto) mixed (Q4 hG) (Eq.mp (by kernel_rfl) (Nu G a b hla hlb))
theorem PO {G : List (Nat × Obj)} (hG : zM G) : zQ Tryz.prog G 14 u7 := by
 intro xs ps r h hp
 unfold u7 at h
 split at h
 ·skip
  rename_i a b
  cases h
  obtain ⟨q0, q1, -⟩ := Zx hp
  exact weaken (ys := [.str a, .str b]) ⟨zX _, zX _, trivial⟩ (Kq hG a b q0 q1)
 ·cases h
end Go.Te

namespace Go.Te
open Go Go.Sx Go.Proofs Go.Ar
set_option maxRecDepth 100000
set_option maxHeartbeats 4000000
structure Nt where
 n : Int
 d : Int
instance : zp Nt := ⟨2, ⟨0, 0⟩, fun c => zT [.i c.n, .i c.d], fun cs => ⟨AV.int (cs 0), AV.int (cs 1)⟩, fun cs => yz (cs 0) && yz (cs 1), fun cs h j hj => by
 simp only [Bool.and_eq_true] at h
 match j, hj with
 | 0, _ => exact zf (Za h.1)
 | 1, _ => exact zf (Za h.2)⟩
instance : Yt Nt := ⟨fun _ => rfl, fun _ => rfl⟩
def wm (n d : Int) : zh := bif zn d 0 then ZQ (-n) (-d).toNat else ZQ n d.toNat
theorem Nn (n : Int) {d : Int} (hd : 0 < d) : WQ (if -n > n then -n else n) d = (Nat.gcd n.natAbs d.toNat : Int) := by
 have e : (if -n > n then -n else n) = (n.natAbs : Int) := by split <;> omega
 unfold WQ
 rw [e, (zF _ _).2 (show (0 : Int) ≤ (n.natAbs : Int) by omega), (zF _ _).2 (show 0 ≤ d by omega), Int.toNat_natCast]
 rfl
theorem PU (n : Int) {d : Int} (hd : 0 < d) : (0 : Int) < (Nat.gcd n.natAbs d.toNat : Int) ∧ n.tdiv (Nat.gcd n.natAbs d.toNat : Int) = n / (Nat.gcd n.natAbs d.toNat : Int) ∧ d.tdiv (Nat.gcd n.natAbs d.toNat : Int) = ((d.toNat / Nat.gcd n.natAbs d.toNat : Nat) : Int) ∧ (n / (Nat.gcd n.natAbs d.toNat : Int)).natAbs ≤ n.natAbs ∧ 0 < d.toNat / Nat.gcd n.natAbs d.toNat ∧ d.toNat / Nat.gcd n.natAbs d.toNat ≤ d.toNat := by
 have hg : 0 < Nat.gcd n.natAbs d.toNat := Nat.gcd_pos_of_pos_right _ (by omega)
 have hdv := Nat.gcd_dvd_right n.natAbs d.toNat
 have hnv : ((Nat.gcd n.natAbs d.toNat : Nat) : Int) ∣ n := Int.ofNat_dvd_left.2 (Nat.gcd_dvd_left _ _)
 generalize Nat.gcd n.natAbs d.toNat = g at *
 have e1 : n.tdiv (g : Int) = n / (g : Int) := Int.tdiv_eq_ediv_of_dvd hnv
 refine ⟨by omega, e1, ?_, ?_, Nat.div_pos (Nat.le_of_dvd (by omega) hdv) hg, Nat.div_le_self _ _⟩
 ·rw [Int.tdiv_eq_ediv_of_nonneg (by omega), Int.natCast_ediv]
  congr 1
  omega
 ·rw [← e1]; exact Int.natAbs_tdiv_le_natAbs n g
theorem qj (n : Int) (d : Nat) : (d / Nat.gcd n.natAbs d = 1 → Lib.itoa (n / (Nat.gcd n.natAbs d : Int)) = ZQ n d) ∧ (d / Nat.gcd n.natAbs d ≠ 1 → Lib.itoa (n / (Nat.gcd n.natAbs d : Int)) ++ [47] ++ Lib.itoa ((d / Nat.gcd n.natAbs d : Nat) : Int) = ZQ n d) := by
 unfold ZQ y6
 refine ⟨fun h => ?_, fun h => ?_⟩
 ·rw [h]
  exact (List.append_nil _).symm
 ·rw [show Nat.beq (d / Nat.gcd n.natAbs d) 1 = false from Bool.eq_false_iff.2 fun e => h (Nat.eq_of_beq_eq_true e), Go.Ar.Zi]
  simp
theorem sn {n : Int} (h : n.natAbs < 10 ^ 20) : (Lib.itoa n).length ≤ 21 := by
 rw [Yf]
 have : Vk n ≤ 20 := WV (by omega) h
 split <;> omega
def Ql : List AV → Option (List zN × AV)
 | [.agg 2 p_x] => some ([.b (yz (p_x 0) && yz (p_x 1)), .p ((⟨AV.int (p_x 0), AV.int (p_x 1)⟩ : Nt).d ≠ 0), .p (-1000000000000000000 ≤ (⟨AV.int (p_x 0), AV.int (p_x 1)⟩ : Nt).d ∧ (⟨AV.int (p_x 0), AV.int (p_x 1)⟩ : Nt).d ≤ 1000000000000000000), .p (-1000000000000000000 ≤ (⟨AV.int (p_x 0), AV.int (p_x 1)⟩ : Nt).n ∧ (⟨AV.int (p_x 0), AV.int (p_x 1)⟩ : Nt).n ≤ 1000000000000000000)], .str (wm (⟨AV.int (p_x 0), AV.int (p_x 1)⟩ : Nt).n (⟨AV.int (p_x 0), AV.int (p_x 1)⟩ : Nt).d))
 | _ => none
theorem kq (G : List (Nat × Obj)) (x : Nt) (h0 : x.d ≠ 0) (h1 : -1000000000000000000 ≤ x.d ∧ x.d ≤ 1000000000000000000) (h2 : -1000000000000000000 ≤ x.n ∧ x.n ≤ 1000000000000000000) :
 let q1 := (if - -Nt.n x > -Nt.n x then - -Nt.n x else -Nt.n x); let q2 := (DB.db (WQ q1 (-Nt.d x) ≠ iZ)); let q4 := (WQ q1 (-Nt.d x)); let q3 := (Int.tdiv (-Nt.n x) q4); let q5 := (Int.tdiv (-Nt.d x) q4); let q6 := (iN ≤ Int.tdiv (-Nt.n x) q4 ∧ Int.tdiv (-Nt.n x) q4 ≤ iX); let q7 := (ByteArray.data (ByteArray.mk #[(47 : UInt8)])); let q8 := (if -Nt.n x > Nt.n x then -Nt.n x else Nt.n x); let q9 := (DB.db (WQ q8 (Nt.d x) ≠ iZ)); let q11 := (WQ q8 (Nt.d x)); let q10 := (Int.tdiv (Nt.n x) q11); let q12 := (Int.tdiv (Nt.d x)
 q11); let q13 := (iN ≤ Int.tdiv (Nt.n x) q11 ∧ Int.tdiv (Nt.n x) q11 ≤ iX); zB [AV.agg 2 (zp.enc x)] → zZ (zn (Nt.d x) iZ) (bF (dK (-Nt.n x)) (bF (dK (-Nt.d x)) (bF (dK (- -Nt.n x)) (((iZ ≤ if - -Nt.n x > -Nt.n x then - -Nt.n x else -Nt.n x) ∧ q1 ≤ iX) ∧ (iZ ≤ -Nt.d x ∧ -Nt.d x ≤ iX) ∧ bF q2 (bF (dK q3) (bF q2 (bF (dK q5) (zZ (Int.tdiv (-Nt.d x) q4 == iO) (q6
 ∧ Lib.itoa q3 = wm (Nt.n x) (Nt.d x)) (q6 ∧ bF (DB.db (lN (Lib.itoa q3) + 1 ≤ nX)) ((iN ≤ Int.tdiv (-Nt.d x) q4 ∧ Int.tdiv (-Nt.d x) q4 ≤ iX) ∧ bF (DB.db (lN (Lib.itoa q3 ++ Array.toList q7) + lN (Lib.itoa q5) ≤ nX)) (Lib.itoa q3 ++ Array.toList q7 ++ Lib.itoa q5 = wm (Nt.n x) (Nt.d x)))))))))))) (bF (dK (-Nt.n x)) (((iZ ≤ if -Nt.n x > Nt.n x then -Nt.n x else Nt.n x) ∧ q8 ≤ (9223372036854775807 :
 Int)) ∧ (iZ ≤ Nt.d x ∧ Nt.d x ≤ iX) ∧ bF q9 (bF (dK q10) (bF q9 (bF (dK q12) (zZ (Int.tdiv (Nt.d x) q11 == iO) (q13 ∧ Lib.itoa q10 = wm (Nt.n x) (Nt.d x)) (q13 ∧ bF (DB.db (lN (Lib.itoa q10) + 1 ≤ nX)) ((iN ≤ Int.tdiv (Nt.d x) q11 ∧ Int.tdiv (Nt.d x) q11 ≤ iX) ∧ bF (DB.db (lN (Lib.itoa q10 ++ Array.toList q7) + lN (Lib.itoa q12) ≤ nX)) (Lib.itoa q10 ++ Array.toList q7 ++ Lib.itoa q12 = wm
 (Nt.n x) (Nt.d x)))))))))) := by
 delta bF dK nX lN iZ iO iX iN
 dsimp only
 intro hb
 simp only [sS, dS]
 have key : ∀ n d : Int, 0 < d → d ≤ 1000000000000000000 → -1000000000000000000 ≤ n ∧ n ≤ 1000000000000000000 → _ := fun n d hd hd1 hn => And.intro (Nn n hd) (And.intro (PU n hd) (qj n d.toNat))
 refine ⟨fun hd => ?_, fun hd => ?_⟩
 ·obtain ⟨k1, ⟨k2, k3, k4, k5, k6, k7⟩, k8, k9⟩ := key (-x.n) (-x.d) (by omega) (by omega) ⟨by omega, by omega⟩
  have hs : wm x.n x.d = ZQ (-x.n) (-x.d).toNat := by unfold wm; rw [(zq _ _).2 hd]; rfl
  rw [k1, k3, k4, hs]
  generalize ZQ (-x.n) (-x.d).toNat = R at *
  generalize Nat.gcd (-x.n).natAbs (-x.d).toNat = g at *
  generalize (-x.n) / (g : Int) = q at *
  generalize (-x.d).toNat / g = e at *
  have l1 := sn (n := q) (by omega)
  have l2 := sn (n := (e : Int)) (by omega)
  refine ⟨⟨by omega, by omega⟩, ⟨by omega, by omega⟩, ⟨by omega, by omega⟩, ⟨by split <;> omega, by split <;> omega⟩, ⟨by omega, by omega⟩, by omega, ⟨by omega, by omega⟩, by omega, ⟨by omega, by omega⟩, fun h => ⟨⟨by omega, by omega⟩, k8 (by omega)⟩, fun h => ⟨⟨by omega, by omega⟩, by omega, ⟨by omega, by omega⟩, by rw [List.length_append, List.length_singleton]; omega, k9 (by omega)⟩⟩
 ·obtain ⟨k1, ⟨k2, k3, k4, k5, k6, k7⟩, k8, k9⟩ := key x.n x.d (by omega) (by omega) h2
  have hs : wm x.n x.d = ZQ x.n x.d.toNat := by unfold wm; rw [show zn x.d 0 = false from Bool.eq_false_iff.2 fun e => by have := (zq _ _).1 e; omega]; rfl
  rw [k1, k3, k4, hs]
  generalize ZQ x.n x.d.toNat = R at *
  generalize Nat.gcd x.n.natAbs x.d.toNat = g at *
  generalize x.n / (g : Int) = q at *
  generalize hD : x.d.toNat / g = e at *
  have l1 := sn (n := q) (by omega)
  have l2 := sn (n := (e : Int)) (by omega)
  refine ⟨⟨by omega, by omega⟩, ⟨by split <;> omega, by split <;> omega⟩, ⟨by omega, by omega⟩, by omega, ⟨by omega, by omega⟩, by omega, ⟨by omega, by omega⟩, fun h => ⟨⟨by omega, by omega⟩, k8 (by omega)⟩, fun h => ⟨⟨by omega, by omega⟩, by omega, ⟨by omega, by omega⟩, by rw [List.length_append, List.length_singleton]; omega, k9 (by omega)⟩⟩
theorem ig {G : List (Nat × Obj)} (hG : zM G) (x : Nt) (h0 : x.d ≠ 0) (h1 : -1000000000000000000 ≤ x.d ∧ x.d ≤ 1000000000000000000) (h2 : -1000000000000000000 ≤ x.n ∧ x.n ≤ 1000000000000000000) : zS Tryz.prog G 143 [yx x] (.str (wm x.n x.d)) :=
 zV (T := (j5 G).plus 194 ra) (an := .auto) mixed (zY.plus (xx hG) (zQ.mono LR)) (Eq.mp (by kernel_rfl) (kq G x h0 h1 h2))
theorem JR {G : List (Nat × Obj)} (hG : zM G) : zQ Tryz.prog G 143 Ql := by
 intro xs ps r h hp
 unfold Ql at h
 split at h
 ·skip
  rename_i p_x
  cases h
  obtain ⟨q0, q1, q2, q3, -⟩ := Zx hp
  exact weaken (ys := [yx (⟨AV.int (p_x 0), AV.int (p_x 1)⟩ : Nt)]) ⟨zH (x := .agg 2 p_x) (α := Nt) q0, trivial⟩ (ig hG (⟨AV.int (p_x 0), AV.int (p_x 1)⟩ : Nt) q1 q2 q3)
 ·cases h
def yE (s : zh) : zh := bif s == [48] then s else bif zd s then zR s else 45 :: s
def QO : List AV → Option (List zN × AV)
 | [.str s] => some ([.p (s.length ≤ 4294967280)], .str (yE s))
 | _ => none
theorem kF (s : List UInt8) (hl : s.length ≤ 4294967280) :
 zB [AV.str s] → zZ (s == bA #[(48 : UInt8)]) (s = yE s) (zZ (zd s) (zR s = yE s) (bF (DB.db (1 + lN s ≤ nX)) (bA #[(45 : UInt8)] ++ s = yE s))) := by
 delta bF bA nX lN
 intro hb
 simp only [sS, dS]
 unfold yE
 refine zu.2 ⟨fun c => by rw [c]; rfl, fun c => zu.2 ⟨fun c2 => by rw [c, c2]; rfl, fun c2 => ⟨by omega, by rw [c, c2]; rfl⟩⟩⟩
theorem IV (s : List UInt8) (hl : s.length ≤ 4294967280) : zS Tryz.prog [] 190 [.str s] (.str (yE s)) :=
 zV (T := T0.plus 210 (xE fun s => .tup 2 (zT [.str (zR s), .b (zd s)]))) (an := .auto) mixed (zY.plus zr Q7) (Eq.mp (by kernel_rfl) (kF s hl))
theorem IN : zQ Tryz.prog [] 190 QO := by
 intro xs ps r h hp
 unfold QO at h
 split at h
 ·skip
  rename_i s
  cases h
  obtain ⟨q0, -⟩ := Zx hp
  exact weaken (ys := [.str s]) ⟨zX _, trivial⟩ (IV s q0)
 ·cases h
theorem qo {s : zh} (h : Zt s = 0) : Zt (yE s) = 0 ∧ zt (yE s) = -zt s ∧ (yE s).length ≤ 302 := by
 obtain ⟨h1, h2⟩ := yS.1 h
 have e : yE s = Lib.itoa (-zt s) := by
  unfold yE
  by_cases h0 : s = [48]
  ·subst h0
   show [48] = Lib.itoa ((0 : Nat) : Int)
   rw [Go.Ar.Zi, zA (by omega)]; rfl
  rw [beq_eq_false_iff_ne.2 h0, cond_false]
  rcases yR h1 with ⟨r, rfl, g1, g2, g3⟩ | ⟨g1, g3⟩
  ·rw [g3, Int.neg_neg, Go.Ar.Zi, ZJ g1]
   rfl
  ·have hm : zd s = false := by
    cases hm : zd s with
    | false => rfl
    | true =>
     match s, hm, g1 with
     | c :: r, hm, g1 =>
      have hc : c = 45 := eq_of_beq hm
      subst hc
      exact (vI g1).elim
   have hz : zk s ≠ 0 := fun hz => h0 (uW g1 hz)
   rw [hm, cond_false, g3, Go.Ar.itoa_neg hz, ZJ g1]
 have hl := (Xe (yE s)).2
 have hE : Zt (yE s) = 0 := by
  rw [e, Yc]
  unfold ZZ Vk
  rw [Int.natAbs_neg]
  rw [wj h1] at h2
  unfold Vk at h2
  rw [show Nat.blt 300 (Lib.nDigits (zt s).natAbs) = false from Bool.eq_false_iff.2 fun e => by have := (zC _ _).1 e; omega]
  rfl
 exact ⟨hE, by rw [e, (Z8 _).2], by have := (yS.1 hE).2; omega⟩
theorem LW {N : Int} {D : Nat} {n d : zh} (hn : n = Lib.itoa (N / (Nat.gcd N.natAbs D : Int))) (hd : d = Lib.itoa ((D / Nat.gcd N.natAbs D : Nat) : Int)) (ln : n.length ≤ 400) (ld : d.length ≤ 400) :
  zZ (d == [49]) (2 = [AV.junk, AV.junk].length ∧ n = ZQ N D) (n.length + 1 ≤ 9223372036854775807 ∧ (n ++ [47]).length + d.length ≤ 9223372036854775807 ∧ 2 = [AV.junk, AV.junk].length ∧ n ++ [47] ++ d = ZQ N D) := by
 obtain ⟨s1, s2⟩ := qj N D
 have e := SG (D / Nat.gcd N.natAbs D)
 rw [← hd] at e
 refine zu.2 ⟨fun c => ⟨rfl, ?_⟩, fun c => ⟨by omega, by rw [List.length_append, List.length_singleton]; omega, rfl, ?_⟩⟩
 ·rw [c] at e
  rw [hn]; exact s1 (Nat.eq_of_beq_eq_true e.symm)
 ·rw [c] at e
  rw [hn, hd]; exact s2 fun h => by rw [h] at e; cases e
theorem JH {n d : zh} (hn : Zt n = 0) (hd : Zt d = 0) (hp : 0 < zt d) : zI n d = 0 ∧ (Lib.itoa (Z0 n d : Int)).length ≤ 400 ∧ n.length ≤ 400 ∧ d.length ≤ 400 ∧
  zZ (!Lib.itoa (Z0 n d : Int) == [49])
   (zZ (Yi d (Lib.itoa (Z0 n d : Int)) == [49]) (2 = [AV.junk, AV.junk].length ∧ Yi n (Lib.itoa (Z0 n d : Int)) = ZQ (zt n) (zt d).toNat)
    (List.length (Yi n (Lib.itoa (Z0 n d : Int))) + 1 ≤ 9223372036854775807 ∧ List.length (Yi n (Lib.itoa (Z0 n d : Int)) ++ [47]) + List.length (Yi d (Lib.itoa (Z0 n d : Int))) ≤ 9223372036854775807 ∧
     2 = [AV.junk, AV.junk].length ∧ Yi n (Lib.itoa (Z0 n d : Int)) ++ [47] ++ Yi d (Lib.itoa (Z0 n d : Int)) = ZQ (zt n) (zt d).toNat))
   (zZ (d == [49]) (2 = [AV.junk, AV.junk].length ∧ n = ZQ (zt n) (zt d).toNat) (n.length + 1 ≤ 9223372036854775807 ∧ (n ++ [47]).length + d.length ≤ 9223372036854775807 ∧ 2 = [AV.junk, AV.junk].length ∧ n ++ [47] ++ d = ZQ (zt n) (zt d).toNat)) := by
 have hb : zI n d = 0 := by unfold zI; rw [hn, hd]; rfl
 obtain ⟨n1, n2, n3⟩ := Z1 hn
 obtain ⟨d1, d2, d3⟩ := Z1 hd
 have n4 := Ur hn
 have d4 := Ur hd
 have eD : (zt d).natAbs = (zt d).toNat := by omega
 have hg : Z0 n d = Nat.gcd (zt n).natAbs (zt d).toNat := by unfold Z0; rw [eD]
 obtain ⟨g1, g2, g3, g4, g5, g6⟩ := PU (zt n) hp
 rw [← hg] at g1 g2 g3 g4 g5 g6
 have gl : Z0 n d ≤ (zt d).natAbs := by rw [hg, eD]; exact Nat.le_of_dvd (by omega) (Nat.gcd_dvd_right _ _)
 have gi : Zt (Lib.itoa (Z0 n d : Int)) = 0 := by
  rw [Yc]
  exact (ZW (n := (Z0 n d : Int)) (k := 300) (by omega) (by omega) (by rw [Int.natAbs_natCast]; omega)).2
 have lg := (Z1 gi).2.1
 have hz : (Lib.itoa (Z0 n d : Int) == [48]) = false := beq_eq_false_iff_ne.2 fun e => by
  have := (Z8 (Z0 n d : Int)).2
  rw [e] at this
  have h0 : zt [48] = 0 := by decide
  rw [h0] at this
  omega
 have dv : ∀ x : zh, Zt x = 0 → Yi x (Lib.itoa (Z0 n d : Int)) = Lib.itoa (zt x / (Z0 n d : Int)) := fun x hx => by
  have e : XA x (Lib.itoa (Z0 n d : Int)) = 0 := by
   unfold XA zI
   rw [hx, gi, hz]; rfl
  rw [(M2 e).1, (Z8 _).2, Int.fdiv_eq_ediv_of_nonneg _ (by omega)]
 have vd : zt d / (Z0 n d : Int) = (((zt d).toNat / Z0 n d : Nat) : Int) := by
  rw [Int.natCast_ediv]; congr 1; omega
 have qd := dv d hd
 rw [vd] at qd
 have ql : ∀ x : Int, x.natAbs < 10 ^ 300 → (Lib.itoa x).length ≤ 400 := fun x hx => by
  have := Yc x
  rw [(ZW (n := x) (k := 300) (by omega) (by omega) hx).2] at this
  have := (Z1 this).2.1
  omega
 refine ⟨hb, by omega, by omega, by omega, zu.2 ⟨fun c => ?_, fun c => ?_⟩⟩
 ·refine LW (by rw [dv n hn, hg]) (by rw [qd, hg]) ?_ ?_
  ·rw [dv n hn]; exact ql _ (by omega)
  ·rw [qd]; exact ql _ (by rw [Int.natAbs_natCast]; omega)
 ·rw [Bool.not_eq_false', SG] at c
  have c1 := Nat.eq_of_beq_eq_true c
  rw [hg] at c1
  refine LW ?_ ?_ (by omega) (by omega)
  ·rw [c1]
   show n = Lib.itoa (zt n / 1)
   rw [Int.ediv_one, XV n3]
  ·rw [c1, Nat.div_one, show (((zt d).toNat : Nat) : Int) = zt d by omega, XV d3]
def rn : List AV → Option (List zN × AV)
 | [.str n, .str d] => some ([.p (Zt n = 0), .p (Zt d = 0), .p (zt d ≠ 0)], .tup 2 (zT [.str (wm (zt n) (zt d)), .i 0]))
 | _ => none
theorem KV (G : List (Nat × Obj)) (n : List UInt8) (d : List UInt8) (hn : Zt n = 0) (hd : Zt d = 0) (hp : zt d ≠ 0) :
 let q1 := (True ∧ bA #[] = wm (zt n) (zt d)); let q2 := (bif zI (yE n) (yE d) != iZ then [] else Lib.itoa (cI (Z0 (yE n) (yE d)))); let q3 := (ByteArray.data (ByteArray.mk #[(49 : UInt8)])); let q4 := (ByteArray.data (ByteArray.mk #[(47 : UInt8)])); let q5 := (bif zI n d != iZ then [] else Lib.itoa (cI (Z0 n d))); zB [AV.str n, AV.str d] → zZ (zd d) (lN n ≤ nM ∧ lN d ≤ nM ∧ lN (yE n) ≤ nM ∧ lN (yE d) ≤ nM ∧ zZ (zI (yE n)
 (yE d) != iZ) (j2 ∧ q1 ∧ kI ∧ zI (yE n) (yE d) = iZ) (zZ (!q2 == Array.toList q3) (lN (yE n) ≤ nM ∧ lN q2 ≤ nM ∧ lN (yE d) ≤ nM ∧ lN q2 ≤ nM ∧ zZ (Yi (yE d) q2 == Array.toList q3) (j2 ∧ (True ∧ Yi (yE n) q2 = wm (zt n) (zt d)) ∧ kI ∧ iZ = iZ) (bF (DB.db (lN (Yi (yE n) q2) + 1 ≤ nX)) (bF (DB.db (lN (Yi (yE n) q2 ++
 Array.toList q4) + lN (Yi (yE d) q2) ≤ nX)) (j2 ∧ (True ∧ Yi (yE n) q2 ++ Array.toList q4 ++ Yi (yE d) q2 = wm (zt n) (zt d)) ∧ kI ∧ iZ = iZ)))) (zZ (yE d == Array.toList q3) (j2 ∧ (True ∧ yE n = wm (zt n) (zt d)) ∧ kI ∧ iZ = iZ) (bF (DB.db (lN (yE n) + 1 ≤ nX)) (bF (DB.db (lN (yE n ++ Array.toList q4) + lN (yE d) ≤ nX)) (2 =
 lN [AV.junk, AV.junk] ∧ (True ∧ yE n ++ Array.toList q4 ++ yE d = wm (zt n) (zt d)) ∧ kI ∧ iZ = iZ)))))) (lN n ≤ nM ∧ lN d ≤ nM ∧ zZ (zI n d != iZ) (j2 ∧ q1 ∧ kI ∧ zI n d = iZ) (zZ (!q5 == Array.toList q3) (lN n ≤ nM ∧ lN q5 ≤ nM ∧ lN d ≤ nM ∧ lN q5 ≤ nM ∧ zZ (Yi d q5 == Array.toList q3) (j2 ∧ (True ∧ Yi n q5 = wm (zt
 n) (zt d)) ∧ kI ∧ iZ = iZ) (bF (DB.db (lN (Yi n q5) + 1 ≤ nX)) (bF (DB.db (lN (Yi n q5 ++ Array.toList q4) + lN (Yi d q5) ≤ nX)) (j2 ∧ (True ∧ Yi n q5 ++ Array.toList q4 ++ Yi d q5 = wm (zt n) (zt d)) ∧ kI ∧ iZ = iZ)))) (zZ (d == Array.toList q3) (j2 ∧ (True ∧ n = wm (zt n) (zt d)) ∧ kI ∧ iZ = iZ) (bF (DB.db (lN n + 1 ≤
 nX)) (bF (DB.db (lN (n ++ Array.toList q4) + lN d ≤ nX)) (j2 ∧ (True ∧ n ++ Array.toList q4 ++ d = wm (zt n) (zt d)) ∧ kI ∧ iZ = iZ)))))) := by
 delta bF bA nX nM cI kI j2 lN iZ
 dsimp only
 intro hb
 simp only [sS, dS]
 have key : ∀ n d : zh, Zt n = 0 → Zt d = 0 → 0 < zt d → _ := fun n d h1 h2 h3 => JH h1 h2 h3
 refine zu.2 ⟨fun c => ?_, fun c => ?_⟩
 ·obtain ⟨o1, o2, o3⟩ := qo hn
  obtain ⟨p1, p2, p3⟩ := qo hd
  have hneg : zt d < 0 := by
   match d, c with
   | x :: r, c =>
    have hx : x = 45 := eq_of_beq c
    subst hx
    have : zt (45 :: r) = -(zk r : Int) := rfl
    omega
  have hs : wm (zt n) (zt d) = ZQ (zt (yE n)) (zt (yE d)).toNat := by unfold wm; rw [(zq _ _).2 hneg, o2, p2]; rfl
  obtain ⟨k1, k2, k3, k4, k5⟩ := key (yE n) (yE d) o1 p1 (by omega)
  obtain ⟨_, n2, _⟩ := Z1 hn
  obtain ⟨_, d2, _⟩ := Z1 hd
  rw [k1, hs]
  refine ⟨by omega, by omega, by omega, by omega, fun h => absurd rfl h, fun _ => ?_⟩
  refine zu.2 ⟨fun c => ⟨by omega, Nat.le_trans k2 (by decide), by omega, Nat.le_trans k2 (by decide), ?_⟩, fun c => ?_⟩
  ·exact (zu.1 k5).1 c
  ·exact (zu.1 k5).2 c
 ·have hpos : 0 < zt d := by
   obtain ⟨d1, _⟩ := yS.1 hd
   rcases yR d1 with ⟨r, rfl, _⟩ | ⟨g1, g3⟩
   ·cases c
   ·omega
  have hs : wm (zt n) (zt d) = ZQ (zt n) (zt d).toNat := by unfold wm; rw [show zn (zt d) 0 = false from Bool.eq_false_iff.2 fun e => by have := (zq _ _).1 e; omega]; rfl
  obtain ⟨k1, k2, k3, k4, k5⟩ := key n d hn hd hpos
  rw [k1, hs]
  refine ⟨by omega, by omega, fun h => absurd rfl h, fun _ => ?_⟩
  refine zu.2 ⟨fun c => ⟨by omega, Nat.le_trans k2 (by decide), by omega, Nat.le_trans k2 (by decide), ?_⟩, fun c => ?_⟩
  ·exact (zu.1 k5).1 c
  ·exact (zu.1 k5).2 c
theorem IJ {G : List (Nat × Obj)} (hG : zM G) (n : List UInt8) (d : List UInt8) (hn : Zt n = 0) (hd : Zt d = 0) (hp : zt d ≠ 0) : zS Tryz.prog G 129 [.str n, .str d] (.tup 2 (zT [.str (wm (zt n) (zt d)), .i 0])) :=
 zV (T := ((((wn G).plus 189 (xE fun s => .b (zd s))).plus 191 Ss).plus 192 pC).plus 190 QO) (an := .auto) mixed (zY.plus (zY.plus (zY.plus (zY.plus zr (zQ.mono I1)) (ML hG)) (Ic hG)) (zQ.mono IN)) (Eq.mp (by kernel_rfl) (KV G n d hn hd hp))
theorem me {G : List (Nat × Obj)} (hG : zM G) : zQ Tryz.prog G 129 rn := by
 intro xs ps r h hp
 unfold rn at h
 split at h
 ·skip
  rename_i n d
  cases h
  obtain ⟨q0, q1, q2, -⟩ := Zx hp
  exact weaken (ys := [.str n, .str d]) ⟨zX _, zX _, trivial⟩ (IJ hG n d q0 q1 q2)
 ·cases h
end Go.Te

namespace Go.Te
open Go Go.Sx Go.Proofs Go.Ar
set_option maxRecDepth 100000
set_option maxHeartbeats 4000000
structure Pt where
 n : zh
 d : zh
instance : zp Pt := ⟨2, ⟨[], []⟩, fun c => zT [.str c.n, .str c.d], fun cs => ⟨AV.bytes (cs 0), AV.bytes (cs 1)⟩, fun cs => ZO (cs 0) && ZO (cs 1), fun cs h j hj => by
 simp only [Bool.and_eq_true] at h
 match j, hj with
 | 0, _ => exact zf (ya h.1)
 | 1, _ => exact zf (ya h.2)⟩
instance : Yt Pt := ⟨fun _ => rfl, fun _ => rfl⟩
def KG (k : Nat) : AV → Bool
 | .fn (.func k') 0 _ 0 _ => Nat.beq k' k
 | _ => false
theorem R5 {k : Nat} {x : AV} (h : KG k x = true) : zc x (Kh k) := by
 unfold KG at h
 split at h
 ·obtain rfl := Nat.eq_of_beq_eq_true h
  exact ⟨rfl, rfl, rfl, Xw, Xw⟩
 ·cases h
def TT (x : Nt) : Prop := (-99999999 ≤ x.n ∧ x.n ≤ 99999999) ∧ (0 < x.d ∧ x.d ≤ 99999999)
theorem xz {a b : Int} (ha : -99999999 ≤ a ∧ a ≤ 99999999) (hb : -99999999 ≤ b ∧ b ≤ 99999999) : -10000000000000000 ≤ a * b ∧ a * b ≤ 10000000000000000 := by
 have h : (a * b).natAbs ≤ 99999999 * 99999999 := by rw [Int.natAbs_mul]; exact Nat.mul_le_mul (by omega) (by omega)
 omega
def Nv : List AV → Option (List zN × AV)
 | [.agg 2 p_x, .agg 2 p_y] => some ([.b (yz (p_x 0) && yz (p_x 1)), .b (yz (p_y 0) && yz (p_y 1)), .p (TT (⟨AV.int (p_x 0), AV.int (p_x 1)⟩ : Nt)), .p (TT (⟨AV.int (p_y 0), AV.int (p_y 1)⟩ : Nt))], yx (⟨(⟨AV.int (p_x 0), AV.int (p_x 1)⟩ : Nt).n * (⟨AV.int (p_y 0), AV.int (p_y 1)⟩ : Nt).d + (⟨AV.int (p_y 0), AV.int (p_y 1)⟩ : Nt).n * (⟨AV.int (p_x 0), AV.int (p_x 1)⟩ : Nt).d, (⟨AV.int (p_x 0), AV.int (p_x 1)⟩ : Nt).d * (⟨AV.int (p_y 0), AV.int (p_y 1)⟩ : Nt).d⟩ : Nt))
 | _ => none
theorem Iz (x : Nt) (y : Nt) (h1 : TT x) (h2 : TT y) :
 zB [AV.agg 2 (zp.enc x), AV.agg 2 (zp.enc y)] → bF (dK (Nt.n x * Nt.d y)) (bF (dK (Nt.n y * Nt.d x)) (bF (dK (Nt.n x * Nt.d y + Nt.n y * Nt.d x)) (bF (dK (Nt.d x * Nt.d y)) (2 = 2 ∧ (kI ∧ Nt.n x * Nt.d y + Nt.n y * Nt.d x = Nt.n (Nt.mk (Nt.n x * Nt.d y + Nt.n y * Nt.d x) (Nt.d x * Nt.d y))) ∧ kI ∧ Nt.d x * Nt.d y = Nt.d (Nt.mk (Nt.n x * Nt.d y + Nt.n y * Nt.d x) (Nt.d x * Nt.d y)))))) := by
 delta bF dK kI
 intro hb
 simp only [sS, dS]
 unfold TT at h1 h2
 have m1 := xz (a := x.n) (b := y.d) h1.1 ⟨by omega, h2.2.2⟩
 have m2 := xz (a := y.n) (b := x.d) h2.1 ⟨by omega, h1.2.2⟩
 have m3 := xz (a := x.d) (b := y.d) ⟨by omega, h1.2.2⟩ ⟨by omega, h2.2.2⟩
 exact ⟨⟨by omega, by omega⟩, ⟨by omega, by omega⟩, ⟨by omega, by omega⟩, ⟨by omega, by omega⟩⟩
theorem gw (x : Nt) (y : Nt) (h1 : TT x) (h2 : TT y) : zS Tryz.prog [] 97 [yx x, yx y] (yx (⟨x.n * y.d + y.n * x.d, x.d * y.d⟩ : Nt)) :=
 zV (T := T0) (an := .auto) mixed zr (Eq.mp (by kernel_rfl) (Iz x y h1 h2))
theorem HI : zQ Tryz.prog [] 97 Nv := by
 intro xs ps r h hp
 unfold Nv at h
 split at h
 ·skip
  rename_i p_x p_y
  cases h
  obtain ⟨q0, q1, q2, q3, -⟩ := Zx hp
  exact weaken (ys := [yx (⟨AV.int (p_x 0), AV.int (p_x 1)⟩ : Nt), yx (⟨AV.int (p_y 0), AV.int (p_y 1)⟩ : Nt)]) ⟨zH (x := .agg 2 p_x) (α := Nt) q0, zH (x := .agg 2 p_y) (α := Nt) q1, trivial⟩ (gw (⟨AV.int (p_x 0), AV.int (p_x 1)⟩ : Nt) (⟨AV.int (p_y 0), AV.int (p_y 1)⟩ : Nt) q2 q3)
 ·cases h
def mf : List AV → Option (List zN × AV)
 | [.agg 2 p_x, .agg 2 p_y] => some ([.b (yz (p_x 0) && yz (p_x 1)), .b (yz (p_y 0) && yz (p_y 1)), .p (TT (⟨AV.int (p_x 0), AV.int (p_x 1)⟩ : Nt)), .p (TT (⟨AV.int (p_y 0), AV.int (p_y 1)⟩ : Nt))], yx (⟨(⟨AV.int (p_x 0), AV.int (p_x 1)⟩ : Nt).n * (⟨AV.int (p_y 0), AV.int (p_y 1)⟩ : Nt).d - (⟨AV.int (p_y 0), AV.int (p_y 1)⟩ : Nt).n * (⟨AV.int (p_x 0), AV.int (p_x 1)⟩ : Nt).d, (⟨AV.int (p_x 0), AV.int (p_x 1)⟩ : Nt).d * (⟨AV.int (p_y 0), AV.int (p_y 1)⟩ : Nt).d⟩ : Nt))
 | _ => none
theorem Ja (x : Nt) (y : Nt) (h1 : TT x) (h2 : TT y) :
 zB [AV.agg 2 (zp.enc x), AV.agg 2 (zp.enc y)] → bF (dK (Nt.n x * Nt.d y)) (bF (dK (Nt.n y * Nt.d x)) (bF (dK (Nt.n x * Nt.d y - Nt.n y * Nt.d x)) (bF (dK (Nt.d x * Nt.d y)) (2 = 2 ∧ (kI ∧ Nt.n x * Nt.d y - Nt.n y * Nt.d x = Nt.n (Nt.mk (Nt.n x * Nt.d y - Nt.n y * Nt.d x) (Nt.d x * Nt.d y))) ∧ kI ∧ Nt.d x * Nt.d y = Nt.d (Nt.mk (Nt.n x * Nt.d y - Nt.n y * Nt.d x) (Nt.d x * Nt.d y)))))) := by
 delta bF dK kI
 intro hb
 simp only [sS, dS]
 unfold TT at h1 h2
 have m1 := xz (a := x.n) (b := y.d) h1.1 ⟨by omega, h2.2.2⟩
 have m2 := xz (a := y.n) (b := x.d) h2.1 ⟨by omega, h1.2.2⟩
 have m3 := xz (a := x.d) (b := y.d) ⟨by omega, h1.2.2⟩ ⟨by omega, h2.2.2⟩
 exact ⟨⟨by omega, by omega⟩, ⟨by omega, by omega⟩, ⟨by omega, by omega⟩, ⟨by omega, by omega⟩⟩
theorem H7 (x : Nt) (y : Nt) (h1 : TT x) (h2 : TT y) : zS Tryz.prog [] 141 [yx x, yx y] (yx (⟨x.n * y.d - y.n * x.d, x.d * y.d⟩ : Nt)) :=
 zV (T := T0) (an := .auto) mixed zr (Eq.mp (by kernel_rfl) (Ja x y h1 h2))
theorem Hs : zQ Tryz.prog [] 141 mf := by
 intro xs ps r h hp
 unfold mf at h
 split at h
 ·skip
  rename_i p_x p_y
  cases h
  obtain ⟨q0, q1, q2, q3, -⟩ := Zx hp
  exact weaken (ys := [yx (⟨AV.int (p_x 0), AV.int (p_x 1)⟩ : Nt), yx (⟨AV.int (p_y 0), AV.int (p_y 1)⟩ : Nt)]) ⟨zH (x := .agg 2 p_x) (α := Nt) q0, zH (x := .agg 2 p_y) (α := Nt) q1, trivial⟩ (H7 (⟨AV.int (p_x 0), AV.int (p_x 1)⟩ : Nt) (⟨AV.int (p_y 0), AV.int (p_y 1)⟩ : Nt) q2 q3)
 ·cases h
def mE : List AV → Option (List zN × AV)
 | [.agg 2 p_x, .agg 2 p_y] => some ([.b (yz (p_x 0) && yz (p_x 1)), .b (yz (p_y 0) && yz (p_y 1)), .p (TT (⟨AV.int (p_x 0), AV.int (p_x 1)⟩ : Nt)), .p (TT (⟨AV.int (p_y 0), AV.int (p_y 1)⟩ : Nt))], yx (⟨(⟨AV.int (p_x 0), AV.int (p_x 1)⟩ : Nt).n * (⟨AV.int (p_y 0), AV.int (p_y 1)⟩ : Nt).n, (⟨AV.int (p_x 0), AV.int (p_x 1)⟩ : Nt).d * (⟨AV.int (p_y 0), AV.int (p_y 1)⟩ : Nt).d⟩ : Nt))
 | _ => none
theorem IE (x : Nt) (y : Nt) (h1 : TT x) (h2 : TT y) :
 zB [AV.agg 2 (zp.enc x), AV.agg 2 (zp.enc y)] → bF (dK (Nt.n x * Nt.n y)) (bF (dK (Nt.d x * Nt.d y)) (2 = 2 ∧ (kI ∧ Nt.n x * Nt.n y = Nt.n (Nt.mk (Nt.n x * Nt.n y) (Nt.d x * Nt.d y))) ∧ kI ∧ Nt.d x * Nt.d y = Nt.d (Nt.mk (Nt.n x * Nt.n y) (Nt.d x * Nt.d y)))) := by
 delta bF dK kI
 intro hb
 simp only [sS, dS]
 unfold TT at h1 h2
 have m1 := xz (a := x.n) (b := y.n) h1.1 ⟨by omega, h2.1.2⟩
 have m2 := xz (a := y.n) (b := x.d) h2.1 ⟨by omega, h1.2.2⟩
 have m3 := xz (a := x.d) (b := y.d) ⟨by omega, h1.2.2⟩ ⟨by omega, h2.2.2⟩
 exact ⟨⟨by omega, by omega⟩, ⟨by omega, by omega⟩⟩
theorem HV (x : Nt) (y : Nt) (h1 : TT x) (h2 : TT y) : zS Tryz.prog [] 187 [yx x, yx y] (yx (⟨x.n * y.n, x.d * y.d⟩ : Nt)) :=
 zV (T := T0) (an := .auto) mixed zr (Eq.mp (by kernel_rfl) (IE x y h1 h2))
theorem Hj : zQ Tryz.prog [] 187 mE := by
 intro xs ps r h hp
 unfold mE at h
 split at h
 ·skip
  rename_i p_x p_y
  cases h
  obtain ⟨q0, q1, q2, q3, -⟩ := Zx hp
  exact weaken (ys := [yx (⟨AV.int (p_x 0), AV.int (p_x 1)⟩ : Nt), yx (⟨AV.int (p_y 0), AV.int (p_y 1)⟩ : Nt)]) ⟨zH (x := .agg 2 p_x) (α := Nt) q0, zH (x := .agg 2 p_y) (α := Nt) q1, trivial⟩ (HV (⟨AV.int (p_x 0), AV.int (p_x 1)⟩ : Nt) (⟨AV.int (p_y 0), AV.int (p_y 1)⟩ : Nt) q2 q3)
 ·cases h
def Wy (f : Int → Int → Int) (x y : Pt) : Int :=
 bif ZZ (zt x.n * zt y.d) != 0 then ZZ (zt x.n * zt y.d) else bif ZZ (zt y.n * zt x.d) != 0 then ZZ (zt y.n * zt x.d)
 else bif ZZ (f (zt x.n * zt y.d) (zt y.n * zt x.d)) != 0 then ZZ (f (zt x.n * zt y.d) (zt y.n * zt x.d)) else ZZ (zt x.d * zt y.d)
def Tn (f : Int → Int → Int) (x y : Pt) : zh := bif Wy f x y == 0 then wm (f (zt x.n * zt y.d) (zt y.n * zt x.d)) (zt x.d * zt y.d) else []
def TK (x : Pt) : Prop := Zt x.n = 0 ∧ Zt x.d = 0 ∧ zt x.d ≠ 0
theorem Vi {f : Int → Int → Int} {a b : zh} (ha : Zt a = 0) (hb : Zt b = 0) : yZ f a b = ZZ (f (zt a) (zt b)) ∧ y5 f a b = yq (f (zt a) (zt b)) := by
 have hE : zI a b = 0 := by unfold zI; rw [ha, hb]; rfl
 obtain ⟨e1, e2⟩ := xa (f := f) hE
 exact ⟨e2, e1⟩
theorem VE {n : Int} (h : ZZ n = 0) : Zt (yq n) = 0 ∧ zt (yq n) = n ∧ (yq n).length ≤ 400 := by
 have e : yq n = Lib.itoa n := by unfold yq; rw [h]; rfl
 have hi : Zt (Lib.itoa n) = 0 := by rw [Yc, h]
 rw [e]
 exact ⟨hi, (Z8 n).2, by have := (Z1 hi).2.1; omega⟩
theorem Lk {f : Int → Int → Int} {x y : Pt} (h1 : TK x) (h2 : TK y) :
 x.n.length ≤ 4294967280 ∧ y.d.length ≤ 4294967280 ∧
  (yZ (fun x1 x2 => x1 * x2) x.n y.d ≠ 0 →
   (yZ (fun x1 x2 => x1 * x2) x.n y.d ≠ 0 → 2 = [AV.junk, AV.junk].length ∧ [] = Tn f x y ∧ yZ (fun x1 x2 => x1 * x2) x.n y.d = Wy f x y) ∧
   (yZ (fun x1 x2 => x1 * x2) x.n y.d = 0 → 2 = [AV.junk, AV.junk].length ∧ [] = Tn f x y ∧ yZ f [] [] = Wy f x y)) ∧
  (yZ (fun x1 x2 => x1 * x2) x.n y.d = 0 → y.n.length ≤ 4294967280 ∧ x.d.length ≤ 4294967280 ∧
   (yZ (fun x1 x2 => x1 * x2) y.n x.d ≠ 0 → 2 = [AV.junk, AV.junk].length ∧ [] = Tn f x y ∧ yZ (fun x1 x2 => x1 * x2) y.n x.d = Wy f x y) ∧
   (yZ (fun x1 x2 => x1 * x2) y.n x.d = 0 → (y5 (fun x1 x2 => x1 * x2) x.n y.d).length ≤ 4294967280 ∧ (y5 (fun x1 x2 => x1 * x2) y.n x.d).length ≤ 4294967280 ∧
    (yZ f (y5 (fun x1 x2 => x1 * x2) x.n y.d) (y5 (fun x1 x2 => x1 * x2) y.n x.d) ≠ 0 → 2 = [AV.junk, AV.junk].length ∧ [] = Tn f x y ∧ yZ f (y5 (fun x1 x2 => x1 * x2) x.n y.d) (y5 (fun x1 x2 => x1 * x2) y.n x.d) = Wy f x y) ∧
    (yZ f (y5 (fun x1 x2 => x1 * x2) x.n y.d) (y5 (fun x1 x2 => x1 * x2) y.n x.d) = 0 → x.d.length ≤ 4294967280 ∧ y.d.length ≤ 4294967280 ∧
     (yZ (fun x1 x2 => x1 * x2) x.d y.d ≠ 0 → 2 = [AV.junk, AV.junk].length ∧ [] = Tn f x y ∧ yZ (fun x1 x2 => x1 * x2) x.d y.d = Wy f x y) ∧
     (yZ (fun x1 x2 => x1 * x2) x.d y.d = 0 → Zt (y5 f (y5 (fun x1 x2 => x1 * x2) x.n y.d) (y5 (fun x1 x2 => x1 * x2) y.n x.d)) = 0 ∧ Zt (y5 (fun x1 x2 => x1 * x2) x.d y.d) = 0 ∧ zt (y5 (fun x1 x2 => x1 * x2) x.d y.d) ≠ 0 ∧
      2 = [AV.junk, AV.junk].length ∧ wm (zt (y5 f (y5 (fun x1 x2 => x1 * x2) x.n y.d) (y5 (fun x1 x2 => x1 * x2) y.n x.d))) (zt (y5 (fun x1 x2 => x1 * x2) x.d y.d)) = Tn f x y ∧ 0 = Wy f x y)))) := by
 obtain ⟨a1, a2, a3⟩ := h1
 obtain ⟨b1, b2, b3⟩ := h2
 have l1 := (Z1 a1).2.1
 have l2 := (Z1 a2).2.1
 have l3 := (Z1 b1).2.1
 have l4 := (Z1 b2).2.1
 obtain ⟨p1, p2⟩ := Vi (f := fun x1 x2 => x1 * x2) a1 b2
 obtain ⟨p3, p4⟩ := Vi (f := fun x1 x2 => x1 * x2) b1 a2
 obtain ⟨p5, p6⟩ := Vi (f := fun x1 x2 => x1 * x2) a2 b2
 have bad : ∀ e : Int, e ≠ 0 → e = Wy f x y → 2 = [AV.junk, AV.junk].length ∧ [] = Tn f x y ∧ e = Wy f x y := fun e h0 h => ⟨rfl, by unfold Tn; rw [← h, beq_eq_false_iff_ne.2 h0]; rfl, h⟩
 rw [p1, p2, p3, p4, p5, p6]
 refine ⟨by omega, by omega, fun h => ⟨fun _ => bad _ h ?_, fun h0 => absurd h0 h⟩, fun g1 => ⟨by omega, by omega, fun h => bad _ h ?_, fun g2 => ?_⟩⟩
 ·unfold Wy; rw [bne_iff_ne.2 h]; rfl
 ·unfold Wy; rw [g1, bne_iff_ne.2 h]; rfl
 obtain ⟨r1, r2, r3⟩ := VE g1
 obtain ⟨r4, r5, r6⟩ := VE g2
 obtain ⟨p7, p8⟩ := Vi (f := f) r1 r4
 rw [r2, r5] at p7 p8
 rw [p7, p8]
 refine ⟨by omega, by omega, fun h => bad _ h ?_, fun g3 => ⟨by omega, by omega, fun h => bad _ h ?_, fun g4 => ?_⟩⟩
 ·unfold Wy; rw [g1, g2, bne_iff_ne.2 h]; rfl
 ·unfold Wy; rw [g1, g2, g3]; rfl
 obtain ⟨s1, s2, s3⟩ := VE g3
 obtain ⟨s4, s5, s6⟩ := VE g4
 have e : Wy f x y = 0 := by unfold Wy; rw [g1, g2, g3, g4]; rfl
 rw [s2, s5]
 exact ⟨s1, s4, Int.mul_ne_zero a3 b3, rfl, by unfold Tn; rw [e]; rfl, e.symm⟩
noncomputable def GT (G : List (Nat × Obj)) : Tb := (((((wn G).plus 145 tI).plus 100 QG).plus 142 QL).plus 129 rn).body Tryz.prog [(133, .auto)]
theorem Tf {G : List (Nat × Obj)} (hG : zM G) : zY Tryz.prog (GT G) := zY.body mixed (zY.plus (zY.plus (zY.plus (zY.plus zr (pD hG)) (iI hG)) (iL hG)) (me hG)) _
def LO : List AV → Option (List zN × AV)
 | [.agg 2 p_x, .agg 2 p_y, .xq 1 c_cf 0] => some ([.b (ZO (p_x 0) && ZO (p_x 1)), .b (ZO (p_y 0) && ZO (p_y 1)), .b (KG 100 (c_cf 0)), .p (TK (⟨AV.bytes (p_x 0), AV.bytes (p_x 1)⟩ : Pt)), .p (TK (⟨AV.bytes (p_y 0), AV.bytes (p_y 1)⟩ : Pt))], .tup 2 (zT [.str (Tn (· + ·) (⟨AV.bytes (p_x 0), AV.bytes (p_x 1)⟩ : Pt) (⟨AV.bytes (p_y 0), AV.bytes (p_y 1)⟩ : Pt)), .i (Wy (· + ·) (⟨AV.bytes (p_x 0), AV.bytes (p_x 1)⟩ : Pt) (⟨AV.bytes (p_y 0), AV.bytes (p_y 1)⟩ : Pt))]))
 | _ => none
theorem Il (G : List (Nat × Obj)) (x : Pt) (y : Pt) (h1 : TK x) (h2 : TK y) :
 let q1 := (yZ (fun (x1 x2 : Int) => x1 * x2) (Pt.n x) (Pt.d y) != iZ); let q2 := (True ∧ bA #[] = Tn (fun (x1 x2 : Int) => x1 + x2) x y); let q3 := (bA #[]); let q4 := (y5 (fun (x1 x2 : Int) => x1 * x2) (Pt.n x) (Pt.d y)); let q5 := (y5 (fun (x1 x2 : Int) => x1 * x2) (Pt.n y) (Pt.d x)); let q6 := (y5 (fun (x1 x2 : Int) => x1 + x2) q4 q5); let q7 := (y5 (fun (x1 x2 : Int) => x1 * x2) (Pt.d x) (Pt.d y)); zB [AV.agg 2 (zp.enc x), AV.agg 2 (zp.enc y), AV.xq 1 (fun (x : Nat) => AV.fn (Fn.func (100 :
 FuncId)) 0 (fun (x : Nat) => AV.junk) 0 fun (x : Nat) => AV.junk) 0] → lN (Pt.n x) ≤ nM ∧ lN (Pt.d y) ≤ nM ∧ zZ q1 (zZ q1 (j2 ∧ q2 ∧ kI ∧ yZ (fun (x1 x2 : Int) => x1 * x2) (Pt.n x) (Pt.d y) = Wy (fun (x1 x2 : Int) => x1 + x2) x y) (0 ≤ nM ∧ 0 ≤ nM ∧ j2 ∧ q2 ∧ kI ∧ yZ (fun (x1 x2 : Int) => x1 + x2) q3 q3 = Wy (fun (x1 x2 : Int) => x1 + x2) x y)) (lN (Pt.n y) ≤ nM ∧ lN (Pt.d x) ≤ nM ∧ zZ (yZ (fun (x1 x2
 : Int) => x1 * x2) (Pt.n y) (Pt.d x) != iZ) (j2 ∧ q2 ∧ kI ∧ yZ (fun (x1 x2 : Int) => x1 * x2) (Pt.n y) (Pt.d x) = Wy (fun (x1 x2 : Int) => x1 + x2) x y) (lN q4 ≤ nM ∧ lN q5 ≤ nM ∧ zZ (yZ (fun (x1 x2 : Int) => x1 + x2) q4 q5 != iZ) (j2 ∧ q2 ∧ kI ∧ yZ (fun (x1 x2 : Int) => x1 + x2) q4 q5 = Wy (fun (x1 x2 : Int) => x1 + x2) x y) (lN (Pt.d x) ≤ nM ∧ lN (Pt.d y) ≤ nM ∧ zZ (yZ (fun (x1 x2 : Int) => x1 * x2)
 (Pt.d x) (Pt.d y) != iZ) (j2 ∧ q2 ∧ kI ∧ yZ (fun (x1 x2 : Int) => x1 * x2) (Pt.d x) (Pt.d y) = Wy (fun (x1 x2 : Int) => x1 + x2) x y) (Zt q6 = iZ ∧ Zt q7 = iZ ∧ zt q7 ≠ iZ ∧ j2 ∧ (True ∧ wm (zt q6) (zt q7) = Tn (fun (x1 x2 : Int) => x1 + x2) x y) ∧ kI ∧ iZ = Wy (fun (x1 x2 : Int) => x1 + x2) x y)))) := by
 delta bA nM kI j2 lN iZ
 dsimp only
 intro hb
 simp only [sS, dS]
 exact Lk h1 h2
theorem HF {G : List (Nat × Obj)} (hG : zM G) (x : Pt) (y : Pt) (h1 : TK x) (h2 : TK y) : zS Tryz.prog G 144 [yx x, yx y, .xq 1 (fun _ => Kh 100) 0] (.tup 2 (zT [.str (Tn (· + ·) x y), .i (Wy (· + ·) x y)])) :=
 zV (T := GT G) (an := .auto) mixed (Tf hG) (Eq.mp (by kernel_rfl) (Il G x y h1 h2))
theorem Hf {G : List (Nat × Obj)} (hG : zM G) : zQ Tryz.prog G 144 LO := by
 intro xs ps r h hp
 unfold LO at h
 split at h
 ·skip
  rename_i p_x p_y c_cf
  cases h
  obtain ⟨q0, q1, q2, q3, q4, -⟩ := Zx hp
  exact weaken (ys := [yx (⟨AV.bytes (p_x 0), AV.bytes (p_x 1)⟩ : Pt), yx (⟨AV.bytes (p_y 0), AV.bytes (p_y 1)⟩ : Pt), .xq 1 (fun _ => Kh 100) 0]) ⟨zH (x := .agg 2 p_x) (α := Pt) q0, zH (x := .agg 2 p_y) (α := Pt) q1, ⟨rfl, rfl, R5 q2⟩, trivial⟩ (HF hG (⟨AV.bytes (p_x 0), AV.bytes (p_x 1)⟩ : Pt) (⟨AV.bytes (p_y 0), AV.bytes (p_y 1)⟩ : Pt) q3 q4)
 ·cases h
def Mk : List AV → Option (List zN × AV)
 | [.agg 2 p_x, .agg 2 p_y, .xq 1 c_cf 0] => some ([.b (ZO (p_x 0) && ZO (p_x 1)), .b (ZO (p_y 0) && ZO (p_y 1)), .b (KG 142 (c_cf 0)), .p (TK (⟨AV.bytes (p_x 0), AV.bytes (p_x 1)⟩ : Pt)), .p (TK (⟨AV.bytes (p_y 0), AV.bytes (p_y 1)⟩ : Pt))], .tup 2 (zT [.str (Tn (· - ·) (⟨AV.bytes (p_x 0), AV.bytes (p_x 1)⟩ : Pt) (⟨AV.bytes (p_y 0), AV.bytes (p_y 1)⟩ : Pt)), .i (Wy (· - ·) (⟨AV.bytes (p_x 0), AV.bytes (p_x 1)⟩ : Pt) (⟨AV.bytes (p_y 0), AV.bytes (p_y 1)⟩ : Pt))]))
 | _ => none
theorem iQ (G : List (Nat × Obj)) (x : Pt) (y : Pt) (h1 : TK x) (h2 : TK y) :
 let q1 := (yZ (fun (x1 x2 : Int) => x1 * x2) (Pt.n x) (Pt.d y) != iZ); let q2 := (True ∧ bA #[] = Tn (fun (x1 x2 : Int) => x1 - x2) x y); let q3 := (bA #[]); let q4 := (y5 (fun (x1 x2 : Int) => x1 * x2) (Pt.n x) (Pt.d y)); let q5 := (y5 (fun (x1 x2 : Int) => x1 * x2) (Pt.n y) (Pt.d x)); let q6 := (y5 (fun (x1 x2 : Int) => x1 - x2) q4 q5); let q7 := (y5 (fun (x1 x2 : Int) => x1 * x2) (Pt.d x) (Pt.d y)); zB [AV.agg 2 (zp.enc x), AV.agg 2 (zp.enc y), AV.xq 1 (fun (x : Nat) => AV.fn (Fn.func (142 :
 FuncId)) 0 (fun (x : Nat) => AV.junk) 0 fun (x : Nat) => AV.junk) 0] → lN (Pt.n x) ≤ nM ∧ lN (Pt.d y) ≤ nM ∧ zZ q1 (zZ q1 (j2 ∧ q2 ∧ kI ∧ yZ (fun (x1 x2 : Int) => x1 * x2) (Pt.n x) (Pt.d y) = Wy (fun (x1 x2 : Int) => x1 - x2) x y) (0 ≤ nM ∧ 0 ≤ nM ∧ j2 ∧ q2 ∧ kI ∧ yZ (fun (x1 x2 : Int) => x1 - x2) q3 q3 = Wy (fun (x1 x2 : Int) => x1 - x2) x y)) (lN (Pt.n y) ≤ nM ∧ lN (Pt.d x) ≤ nM ∧ zZ (yZ (fun (x1 x2
 : Int) => x1 * x2) (Pt.n y) (Pt.d x) != iZ) (j2 ∧ q2 ∧ kI ∧ yZ (fun (x1 x2 : Int) => x1 * x2) (Pt.n y) (Pt.d x) = Wy (fun (x1 x2 : Int) => x1 - x2) x y) (lN q4 ≤ nM ∧ lN q5 ≤ nM ∧ zZ (yZ (fun (x1 x2 : Int) => x1 - x2) q4 q5 != iZ) (j2 ∧ q2 ∧ kI ∧ yZ (fun (x1 x2 : Int) => x1 - x2) q4 q5 = Wy (fun (x1 x2 : Int) => x1 - x2) x y) (lN (Pt.d x) ≤ nM ∧ lN (Pt.d y) ≤ nM ∧ zZ (yZ (fun (x1 x2 : Int) => x1 * x2)
 (Pt.d x) (Pt.d y) != iZ) (j2 ∧ q2 ∧ kI ∧ yZ (fun (x1 x2 : Int) => x1 * x2) (Pt.d x) (Pt.d y) = Wy (fun (x1 x2 : Int) => x1 - x2) x y) (Zt q6 = iZ ∧ Zt q7 = iZ ∧ zt q7 ≠ iZ ∧ j2 ∧ (True ∧ wm (zt q6) (zt q7) = Tn (fun (x1 x2 : Int) => x1 - x2) x y) ∧ kI ∧ iZ = Wy (fun (x1 x2 : Int) => x1 - x2) x y)))) := by
 delta bA nM kI j2 lN iZ
 dsimp only
 intro hb
 simp only [sS, dS]
 exact Lk h1 h2
theorem Hy {G : List (Nat × Obj)} (hG : zM G) (x : Pt) (y : Pt) (h1 : TK x) (h2 : TK y) : zS Tryz.prog G 144 [yx x, yx y, .xq 1 (fun _ => Kh 142) 0] (.tup 2 (zT [.str (Tn (· - ·) x y), .i (Wy (· - ·) x y)])) :=
 zV (T := GT G) (an := .auto) mixed (Tf hG) (Eq.mp (by kernel_rfl) (iQ G x y h1 h2))
theorem gq {G : List (Nat × Obj)} (hG : zM G) : zQ Tryz.prog G 144 Mk := by
 intro xs ps r h hp
 unfold Mk at h
 split at h
 ·skip
  rename_i p_x p_y c_cf
  cases h
  obtain ⟨q0, q1, q2, q3, q4, -⟩ := Zx hp
  exact weaken (ys := [yx (⟨AV.bytes (p_x 0), AV.bytes (p_x 1)⟩ : Pt), yx (⟨AV.bytes (p_y 0), AV.bytes (p_y 1)⟩ : Pt), .xq 1 (fun _ => Kh 142) 0]) ⟨zH (x := .agg 2 p_x) (α := Pt) q0, zH (x := .agg 2 p_y) (α := Pt) q1, ⟨rfl, rfl, R5 q2⟩, trivial⟩ (Hy hG (⟨AV.bytes (p_x 0), AV.bytes (p_x 1)⟩ : Pt) (⟨AV.bytes (p_y 0), AV.bytes (p_y 1)⟩ : Pt) q3 q4)
 ·cases h
def qE (x y : Pt) : Int := bif ZZ (zt x.n * zt y.n) != 0 then ZZ (zt x.n * zt y.n) else ZZ (zt x.d * zt y.d)
def LH (x y : Pt) : zh := bif qE x y == 0 then wm (zt x.n * zt y.n) (zt x.d * zt y.d) else []
def NH : List AV → Option (List zN × AV)
 | [.agg 2 p_x, .agg 2 p_y] => some ([.b (ZO (p_x 0) && ZO (p_x 1)), .b (ZO (p_y 0) && ZO (p_y 1)), .p (TK (⟨AV.bytes (p_x 0), AV.bytes (p_x 1)⟩ : Pt)), .p (TK (⟨AV.bytes (p_y 0), AV.bytes (p_y 1)⟩ : Pt))], .tup 2 (zT [.str (LH (⟨AV.bytes (p_x 0), AV.bytes (p_x 1)⟩ : Pt) (⟨AV.bytes (p_y 0), AV.bytes (p_y 1)⟩ : Pt)), .i (qE (⟨AV.bytes (p_x 0), AV.bytes (p_x 1)⟩ : Pt) (⟨AV.bytes (p_y 0), AV.bytes (p_y 1)⟩ : Pt))]))
 | _ => none
theorem IQ (G : List (Nat × Obj)) (x : Pt) (y : Pt) (h1 : TK x) (h2 : TK y) :
 let q1 := (True ∧ bA #[] = LH x y); let q2 := (y5 (fun (x1 x2 : Int) => x1 * x2) (Pt.n x) (Pt.n y)); let q3 := (y5 (fun (x1 x2 : Int) => x1 * x2) (Pt.d x) (Pt.d y)); zB [AV.agg 2 (zp.enc x), AV.agg 2 (zp.enc y)] → lN (Pt.n x) ≤ nM ∧ lN (Pt.n y) ≤ nM ∧ zZ (yZ (fun (x1 x2 : Int) => x1 * x2) (Pt.n x) (Pt.n y) != iZ) (j2 ∧ q1 ∧ kI ∧ yZ (fun (x1 x2 : Int) => x1 * x2) (Pt.n x) (Pt.n y) = qE x y) (lN (Pt.d x) ≤ nM ∧ lN (Pt.d y) ≤
 nM ∧ zZ (yZ (fun (x1 x2 : Int) => x1 * x2) (Pt.d x) (Pt.d y) != iZ) (j2 ∧ q1 ∧ kI ∧ yZ (fun (x1 x2 : Int) => x1 * x2) (Pt.d x) (Pt.d y) = qE x y) (Zt q2 = iZ ∧ Zt q3 = iZ ∧ zt q3 ≠ iZ ∧ j2 ∧ (True ∧ wm (zt q2) (zt q3) = LH x y) ∧ kI ∧ iZ = qE x y)) := by
 delta bA nM kI j2 lN iZ
 dsimp only
 intro hb
 simp only [sS, dS]
 obtain ⟨a1, a2, a3⟩ := h1
 obtain ⟨b1, b2, b3⟩ := h2
 have l1 := (Z1 a1).2.1
 have l2 := (Z1 a2).2.1
 have l3 := (Z1 b1).2.1
 have l4 := (Z1 b2).2.1
 obtain ⟨p1, p2⟩ := Vi (f := fun x1 x2 => x1 * x2) a1 b1
 obtain ⟨p5, p6⟩ := Vi (f := fun x1 x2 => x1 * x2) a2 b2
 have bad : ∀ e : Int, e ≠ 0 → e = qE x y → 2 = [AV.junk, AV.junk].length ∧ [] = LH x y ∧ e = qE x y := fun e h0 h => ⟨rfl, by unfold LH; rw [← h, beq_eq_false_iff_ne.2 h0]; rfl, h⟩
 rw [p1, p2, p5, p6]
 refine ⟨by omega, by omega, fun h => bad _ h ?_, fun g1 => ⟨by omega, by omega, fun h => bad _ h ?_, fun g4 => ?_⟩⟩
 ·unfold qE; rw [bne_iff_ne.2 h]; rfl
 ·unfold qE; rw [g1]; rfl
 obtain ⟨s1, s2, s3⟩ := VE g1
 obtain ⟨s4, s5, s6⟩ := VE g4
 have e : qE x y = 0 := by unfold qE; rw [g1, g4]; rfl
 rw [s2, s5]
 exact ⟨s1, s4, Int.mul_ne_zero a3 b3, rfl, by unfold LH; rw [e]; rfl, e.symm⟩
theorem gL {G : List (Nat × Obj)} (hG : zM G) (x : Pt) (y : Pt) (h1 : TK x) (h2 : TK y) : zS Tryz.prog G 188 [yx x, yx y] (.tup 2 (zT [.str (LH x y), .i (qE x y)])) :=
 zV (T := ((wn G).plus 145 tI).plus 129 rn) (an := .auto) mixed (zY.plus (zY.plus zr (pD hG)) (me hG)) (Eq.mp (by kernel_rfl) (IQ G x y h1 h2))
theorem I7 {G : List (Nat × Obj)} (hG : zM G) : zQ Tryz.prog G 188 NH := by
 intro xs ps r h hp
 unfold NH at h
 split at h
 ·skip
  rename_i p_x p_y
  cases h
  obtain ⟨q0, q1, q2, q3, -⟩ := Zx hp
  exact weaken (ys := [yx (⟨AV.bytes (p_x 0), AV.bytes (p_x 1)⟩ : Pt), yx (⟨AV.bytes (p_y 0), AV.bytes (p_y 1)⟩ : Pt)]) ⟨zH (x := .agg 2 p_x) (α := Pt) q0, zH (x := .agg 2 p_y) (α := Pt) q1, trivial⟩ (gL hG (⟨AV.bytes (p_x 0), AV.bytes (p_x 1)⟩ : Pt) (⟨AV.bytes (p_y 0), AV.bytes (p_y 1)⟩ : Pt) q2 q3)
 ·cases h
end Go.Te

namespace Go.Te
open Go Go.Sx Go.Proofs Go.Ar
set_option maxRecDepth 100000
set_option maxHeartbeats 4000000
def SE (f : Int → Int → Int) (a b : zh) : Int := f (zL a * (zP b : Int)) (zL b * (zP a : Int))
def yD (f : Int → Int → Int) (a b : zh) : Int := bif Yw a b != 0 then Yw a b else bif ZZ (SE f a b) != 0 then ZZ (SE f a b) else ZZ ((zP a : Int) * (zP b : Int))
def YD (f : Int → Int → Int) (a b : zh) : zh := bif yD f a b == 0 then ZQ (SE f a b) (zP a * zP b) else []
def XQ (a b : zh) : Int := bif zo a != 0 then zo a else bif zo b != 0 then zo b else bif ZZ (zL a * zL b) != 0 then ZZ (zL a * zL b) else ZZ ((zP a : Int) * (zP b : Int))
def Xa (a b : zh) : zh := bif XQ a b == 0 then ZQ (zL a * zL b) (zP a * zP b) else []
noncomputable def gG (G : List (Nat × Obj)) : Tb := (((((((wn G).plus 132 VU).plus 130 tp).plus 143 Ql).plus 97 Nv).plus 141 mf).plus 187 mE).plus 188 NH
theorem V2 {G : List (Nat × Obj)} (hG : zM G) : zY Tryz.prog (gG G) :=
 zY.plus (zY.plus (zY.plus (zY.plus (zY.plus (zY.plus (zY.plus zr (rk hG)) (zQ.mono QW)) (JR hG)) (zQ.mono HI)) (zQ.mono Hs)) (zQ.mono Hj)) (I7 hG)
def Gp : List (FuncId × yW) := [(96, .auto), (98, .auto), (99, .auto)]
theorem V4 {a : zh} (h : zo a = 0) : TK ⟨zO a, Zo a⟩ := by
 obtain ⟨a1, a2, a3, a4⟩ := MY h
 refine ⟨a1, a2, ?_⟩
 rw [a4]
 have := Zb (Zu.1 h).1
 omega
theorem jc {f : Int → Int → Int} {a b : zh} (ha : zo a = 0) (hb : zo b = 0) : Tn f ⟨zO a, Zo a⟩ ⟨zO b, Zo b⟩ = YD f a b ∧ Wy f ⟨zO a, Zo a⟩ ⟨zO b, Zo b⟩ = yD f a b := by
 obtain ⟨_, _, a3, a4⟩ := MY ha
 obtain ⟨_, _, b3, b4⟩ := MY hb
 have pa := Zb (Zu.1 ha).1
 have pb := Zb (Zu.1 hb).1
 have e : Wy f ⟨zO a, Zo a⟩ ⟨zO b, Zo b⟩ = yD f a b := by
  unfold Wy yD Yw SE
  rw [a3, a4, b3, b4, ha, hb]
  simp only [bne_self_eq_false, cond_false]
  cases h1 : ZZ (zL a * (zP b : Int)) != 0 with
  | true => simp only [cond_true, h1]
  | false => simp only [cond_false]
 refine ⟨?_, e⟩
 unfold Tn YD
 rw [e]
 cases yD f a b == 0 with
 | false => rfl
 | true =>
  simp only [cond_true]
  rw [a3, a4, b3, b4]
  have hp : (0 : Int) < (zP a : Int) * (zP b : Int) := Int.mul_pos (by omega) (by omega)
  unfold wm SE
  rw [show zn ((zP a : Int) * (zP b : Int)) 0 = false from Bool.eq_false_iff.2 fun e => by have := (zq _ _).1 e; omega, cond_false, ← Int.natCast_mul, Int.toNat_natCast]
theorem sw {a : zh} (h : Zk a = true) : TT ⟨zL a, (zP a : Int)⟩ := by
 obtain ⟨h1, h2, h3⟩ := XG h
 have := Zb (Zu.1 h1).1
 exact ⟨⟨by simp only; omega, by simp only; omega⟩, by simp only; omega, by simp only; omega⟩
theorem qh {f : Int → Int → Int} (hf : ∀ u v, (f u v).natAbs ≤ u.natAbs + v.natAbs) {a b : zh} (ha : Zk a = true) (hb : Zk b = true) :
  yD f a b = 0 ∧ YD f a b = wm (f (zL a * (zP b : Int)) (zL b * (zP a : Int))) ((zP a : Int) * (zP b : Int)) ∧ (zP a : Int) * (zP b : Int) ≠ 0 ∧
  (-1000000000000000000 ≤ (zP a : Int) * (zP b : Int) ∧ (zP a : Int) * (zP b : Int) ≤ 1000000000000000000) ∧
  (-1000000000000000000 ≤ f (zL a * (zP b : Int)) (zL b * (zP a : Int)) ∧ f (zL a * (zP b : Int)) (zL b * (zP a : Int)) ≤ 1000000000000000000) := by
 obtain ⟨a1, a2, a3⟩ := XG ha
 obtain ⟨b1, b2, b3⟩ := XG hb
 have pa := Zb (Zu.1 a1).1
 have pb := Zb (Zu.1 b1).1
 have m1 := xz (a := zL a) (b := (zP b : Int)) ⟨by omega, by omega⟩ ⟨by omega, by omega⟩
 have m2 := xz (a := zL b) (b := (zP a : Int)) ⟨by omega, by omega⟩ ⟨by omega, by omega⟩
 have m3 := xz (a := (zP a : Int)) (b := (zP b : Int)) ⟨by omega, by omega⟩ ⟨by omega, by omega⟩
 have hp : (0 : Int) < (zP a : Int) * (zP b : Int) := Int.mul_pos (by omega) (by omega)
 have hN := hf (zL a * (zP b : Int)) (zL b * (zP a : Int))
 have eN : SE f a b = f (zL a * (zP b : Int)) (zL b * (zP a : Int)) := rfl
 have e : yD f a b = 0 := by
  unfold yD Yw
  rw [a1, b1, (ZW (n := zL a * (zP b : Int)) (k := 20) (by omega) (by omega) (by omega)).2, (ZW (n := zL b * (zP a : Int)) (k := 20) (by omega) (by omega) (by omega)).2, eN,
   (ZW (n := f (zL a * (zP b : Int)) (zL b * (zP a : Int))) (k := 20) (by omega) (by omega) (by omega)).2, (ZW (n := (zP a : Int) * (zP b : Int)) (k := 20) (by omega) (by omega) (by omega)).2]
  rfl
 refine ⟨e, ?_, by omega, ⟨by omega, by omega⟩, ⟨by omega, by omega⟩⟩
 unfold YD
 rw [e]
 show ZQ (SE f a b) _ = _
 unfold wm
 rw [show zn ((zP a : Int) * (zP b : Int)) 0 = false from Bool.eq_false_iff.2 fun e => by have := (zq _ _).1 e; omega, cond_false, ← Int.natCast_mul, Int.toNat_natCast, eN]
theorem iy {f : Int → Int → Int} {a b : zh} (h : zo a ≠ 0) : [] = YD f a b ∧ zo a = yD f a b := by
 have e : yD f a b = zo a := by
  unfold yD Yw
  rw [bne_iff_ne.2 h]
  simp only [cond_true]
  rw [bne_iff_ne.2 h]; rfl
 exact ⟨by unfold YD; rw [e, beq_eq_false_iff_ne.2 h]; rfl, e.symm⟩
theorem J9 {f : Int → Int → Int} {a b : zh} (h0 : zo a = 0) (h : zo b ≠ 0) : [] = YD f a b ∧ zo b = yD f a b := by
 have e : yD f a b = zo b := by
  unfold yD Yw
  rw [h0, bne_iff_ne.2 h]
  simp only [bne_self_eq_false, cond_false, cond_true]
  rw [bne_iff_ne.2 h]; rfl
 exact ⟨by unfold YD; rw [e, beq_eq_false_iff_ne.2 h]; rfl, e.symm⟩
def Qz : List AV → Option (List zN × AV)
 | [.str a, .str b] => some ([.p (a.length ≤ 9223372036854775807), .p (b.length ≤ 9223372036854775807)], .tup 2 (zT [.str (YD (· - ·) a b), .i (yD (· - ·) a b)]))
 | _ => none
theorem LD (G : List (Nat × Obj)) (a : List UInt8) (b : List UInt8) (hla : a.length ≤ 9223372036854775807) (hlb : b.length ≤ 9223372036854775807) :
 let q2 := (True ∧ bA #[] = YD (fun (x1 x2 : Int) => x1 - x2) a b); let q3 := (Pt.mk (AV.bytes (AV.str (bif zo a == iZ then zO a else []))) (AV.bytes (AV.str (bif zo a == iZ then Zo a else [])))); let q4 := (Pt.d q3); let q5 := (Pt.mk (AV.bytes (AV.str (bif zo b == iZ then zO b else []))) (AV.bytes (AV.str (bif zo b == iZ then Zo b else [])))); let q6 := (Pt.d q5); let q1 := (lN a ≤ nX ∧ zZ (zo a != iZ) (j2 ∧ q2 ∧ kI ∧ zo
 a = yD (fun (x1 x2 : Int) => x1 - x2) a b) (lN b ≤ nX ∧ zZ (zo b != iZ) (j2 ∧ q2 ∧ kI ∧ zo b = yD (fun (x1 x2 : Int) => x1 - x2) a b) ((Zt (Pt.n q3) = iZ ∧ Zt q4 = iZ ∧ zt q4 ≠ iZ) ∧ (Zt (Pt.n q5) = iZ ∧ Zt q6 = iZ ∧ zt q6 ≠ iZ) ∧ j2 ∧ (True ∧ Tn (fun (x1 x2 : Int) => x1 - x2) q3 q5 = YD (fun (x1 x2 : Int) => x1 - x2) a b) ∧ kI ∧ Wy (fun (x1 x2 : Int) => x1 - x2) q3 q5 = yD (fun (x1 x2 : Int) => x1 -
 x2) a b))); let q9 := (Value.agg #[Value.int .i64 iZ, Value.int .i64 iZ]); let q8 := (fun (i : Nat) => if 0 ≤ i ∧ i < 0 + 2 then zT [AV.i (bif Zk a then zL a else iZ), AV.i (bif Zk a then (cI (zP a)) else iZ)] (i - 0) else Zf q9 i); let q7 := (Nt.mk (AV.int (q8 0)) (AV.int (q8 1))); let q11 := (fun (i : Nat) => if 0 ≤ i ∧ i < 0 + 2 then zT [AV.i (bif Zk b then zL b else iZ), AV.i (bif Zk b then (cI (zP b)) else iZ)] (i - 0) else Zf q9 i); let q10 := (Nt.mk (AV.int (q11 0)) (AV.int (q11 1))); let q13 := (Nt.mk (Nt.n
 q7 * Nt.d q10 - Nt.n q10 * Nt.d q7) (Nt.d q7 * Nt.d q10)); let q12 := (Nt.mk (AV.int (aI (Nt.n q13))) (AV.int (aI (Nt.d q13)))); zB [AV.str a, AV.str b] → lN a ≤ nX ∧ zZ (!Zk a) q1 (lN b ≤ nX ∧ zZ (!Zk b) q1 ((((-99999999 : Int) ≤ Nt.n q7 ∧ Nt.n q7 ≤ (99999999 : Int)) ∧ iZ < Nt.d q7 ∧ Nt.d q7 ≤ (99999999 : Int)) ∧ (((-99999999 : Int) ≤ Nt.n q10 ∧ Nt.n q10 ≤ (99999999 : Int)) ∧ iZ < Nt.d q10 ∧ Nt.d q10 ≤ (99999999 : Int)) ∧ Nt.d q12 ≠ iZ ∧ ((-1000000000000000000 : Int) ≤
 Nt.d q12 ∧ Nt.d q12 ≤ (1000000000000000000 : Int)) ∧ ((-1000000000000000000 : Int) ≤ Nt.n q12 ∧ Nt.n q12 ≤ (1000000000000000000 : Int)) ∧ j2 ∧ (True ∧ wm (Nt.n q12) (Nt.d q12) = YD (fun (x1 x2 : Int) => x1 - x2) a b) ∧ kI ∧ iZ = yD (fun (x1 x2 : Int) => x1 - x2) a b)) := by
 delta bA nX cI kI j2 lN iZ aI
 dsimp only
 intro hb
 simp only [sS, dS]
 refine ⟨hla, zu.2 ⟨fun c => ?_, fun c => ⟨hlb, zu.2 ⟨fun c2 => ?_, fun c2 => ?_⟩⟩⟩⟩
 rotate_left 2
 ·rw [Bool.not_eq_false'] at c c2
  obtain ⟨q1, q2, q3, q4, q5⟩ := qh (f := fun x1 x2 => x1 - x2) (fun u v => by omega) c c2
  rw [q1, q2, c, c2]
  exact ⟨sw c, sw c2, q3, q4, q5, rfl, rfl, rfl⟩
 all_goals
  refine ⟨hla, fun h => ⟨rfl, iy h⟩, fun h0 => ⟨hlb, fun h => ⟨rfl, J9 h0 h⟩, fun h1 => ?_⟩⟩
  obtain ⟨q1, q2⟩ := jc (f := fun x1 x2 => x1 - x2) h0 h1
  rw [h0, h1]
  exact ⟨V4 h0, V4 h1, rfl, q1, q2⟩
theorem iP {G : List (Nat × Obj)} (hG : zM G) (a : List UInt8) (b : List UInt8) (hla : a.length ≤ 9223372036854775807) (hlb : b.length ≤ 9223372036854775807) : zS Tryz.prog G 94 [.str a, .str b] (.tup 2 (zT [.str (YD (· - ·) a b), .i (yD (· - ·) a b)])) :=
 zV (T := ((gG G).plus 144 Mk).body Tryz.prog Gp) (an := .auto) mixed (zY.body mixed (zY.plus (V2 hG) (gq hG)) _) (Eq.mp (by kernel_rfl) (LD G a b hla hlb))
theorem iU {G : List (Nat × Obj)} (hG : zM G) : zQ Tryz.prog G 94 Qz := by
 intro xs ps r h hp
 unfold Qz at h
 split at h
 ·skip
  rename_i a b
  cases h
  obtain ⟨q0, q1, -⟩ := Zx hp
  exact weaken (ys := [.str a, .str b]) ⟨zX _, zX _, trivial⟩ (iP hG a b q0 q1)
 ·cases h
def pF : List AV → Option (List zN × AV)
 | [.str a, .str b] => some ([.p (a.length ≤ 9223372036854775807), .p (b.length ≤ 9223372036854775807)], .tup 2 (zT [.str (YD (· + ·) a b), .i (yD (· + ·) a b)]))
 | _ => none
theorem Kn (G : List (Nat × Obj)) (a : List UInt8) (b : List UInt8) (hla : a.length ≤ 9223372036854775807) (hlb : b.length ≤ 9223372036854775807) :
 let q2 := (True ∧ bA #[] = YD (fun (x1 x2 : Int) => x1 + x2) a b); let q3 := (Pt.mk (AV.bytes (AV.str (bif zo a == iZ then zO a else []))) (AV.bytes (AV.str (bif zo a == iZ then Zo a else [])))); let q4 := (Pt.d q3); let q5 := (Pt.mk (AV.bytes (AV.str (bif zo b == iZ then zO b else []))) (AV.bytes (AV.str (bif zo b == iZ then Zo b else [])))); let q6 := (Pt.d q5); let q1 := (lN a ≤ nX ∧ zZ (zo a != iZ) (j2 ∧ q2 ∧ kI ∧ zo
 a = yD (fun (x1 x2 : Int) => x1 + x2) a b) (lN b ≤ nX ∧ zZ (zo b != iZ) (j2 ∧ q2 ∧ kI ∧ zo b = yD (fun (x1 x2 : Int) => x1 + x2) a b) ((Zt (Pt.n q3) = iZ ∧ Zt q4 = iZ ∧ zt q4 ≠ iZ) ∧ (Zt (Pt.n q5) = iZ ∧ Zt q6 = iZ ∧ zt q6 ≠ iZ) ∧ j2 ∧ (True ∧ Tn (fun (x1 x2 : Int) => x1 + x2) q3 q5 = YD (fun (x1 x2 : Int) => x1 + x2) a b) ∧ kI ∧ Wy (fun (x1 x2 : Int) => x1 + x2) q3 q5 = yD (fun (x1 x2 : Int) => x1 +
 x2) a b))); let q9 := (Value.agg #[Value.int .i64 iZ, Value.int .i64 iZ]); let q8 := (fun (i : Nat) => if 0 ≤ i ∧ i < 0 + 2 then zT [AV.i (bif Zk a then zL a else iZ), AV.i (bif Zk a then (cI (zP a)) else iZ)] (i - 0) else Zf q9 i); let q7 := (Nt.mk (AV.int (q8 0)) (AV.int (q8 1))); let q11 := (fun (i : Nat) => if 0 ≤ i ∧ i < 0 + 2 then zT [AV.i (bif Zk b then zL b else iZ), AV.i (bif Zk b then (cI (zP b)) else iZ)] (i - 0) else Zf q9 i); let q10 := (Nt.mk (AV.int (q11 0)) (AV.int (q11 1))); let q13 := (Nt.mk (Nt.n
 q7 * Nt.d q10 + Nt.n q10 * Nt.d q7) (Nt.d q7 * Nt.d q10)); let q12 := (Nt.mk (AV.int (aI (Nt.n q13))) (AV.int (aI (Nt.d q13)))); zB [AV.str a, AV.str b] → lN a ≤ nX ∧ zZ (!Zk a) q1 (lN b ≤ nX ∧ zZ (!Zk b) q1 ((((-99999999 : Int) ≤ Nt.n q7 ∧ Nt.n q7 ≤ (99999999 : Int)) ∧ iZ < Nt.d q7 ∧ Nt.d q7 ≤ (99999999 : Int)) ∧ (((-99999999 : Int) ≤ Nt.n q10 ∧ Nt.n q10 ≤ (99999999 : Int)) ∧ iZ < Nt.d q10 ∧ Nt.d q10 ≤ (99999999 : Int)) ∧ Nt.d q12 ≠ iZ ∧ ((-1000000000000000000 : Int) ≤
 Nt.d q12 ∧ Nt.d q12 ≤ (1000000000000000000 : Int)) ∧ ((-1000000000000000000 : Int) ≤ Nt.n q12 ∧ Nt.n q12 ≤ (1000000000000000000 : Int)) ∧ j2 ∧ (True ∧ wm (Nt.n q12) (Nt.d q12) = YD (fun (x1 x2 : Int) => x1 + x2) a b) ∧ kI ∧ iZ = yD (fun (x1 x2 : Int) => x1 + x2) a b)) := by
 delta bA nX cI kI j2 lN iZ aI
 dsimp only
 intro hb
 simp only [sS, dS]
 refine ⟨hla, zu.2 ⟨fun c => ?_, fun c => ⟨hlb, zu.2 ⟨fun c2 => ?_, fun c2 => ?_⟩⟩⟩⟩
 rotate_left 2
 ·rw [Bool.not_eq_false'] at c c2
  obtain ⟨q1, q2, q3, q4, q5⟩ := qh (f := fun x1 x2 => x1 + x2) (fun u v => by omega) c c2
  rw [q1, q2, c, c2]
  exact ⟨sw c, sw c2, q3, q4, q5, rfl, rfl, rfl⟩
 all_goals
  refine ⟨hla, fun h => ⟨rfl, iy h⟩, fun h0 => ⟨hlb, fun h => ⟨rfl, J9 h0 h⟩, fun h1 => ?_⟩⟩
  obtain ⟨q1, q2⟩ := jc (f := fun x1 x2 => x1 + x2) h0 h1
  rw [h0, h1]
  exact ⟨V4 h0, V4 h1, rfl, q1, q2⟩
theorem IX {G : List (Nat × Obj)} (hG : zM G) (a : List UInt8) (b : List UInt8) (hla : a.length ≤ 9223372036854775807) (hlb : b.length ≤ 9223372036854775807) : zS Tryz.prog G 43 [.str a, .str b] (.tup 2 (zT [.str (YD (· + ·) a b), .i (yD (· + ·) a b)])) :=
 zV (T := ((gG G).plus 144 LO).body Tryz.prog Gp) (an := .auto) mixed (zY.body mixed (zY.plus (V2 hG) (Hf hG)) _) (Eq.mp (by kernel_rfl) (Kn G a b hla hlb))
theorem IU {G : List (Nat × Obj)} (hG : zM G) : zQ Tryz.prog G 43 pF := by
 intro xs ps r h hp
 unfold pF at h
 split at h
 ·skip
  rename_i a b
  cases h
  obtain ⟨q0, q1, -⟩ := Zx hp
  exact weaken (ys := [.str a, .str b]) ⟨zX _, zX _, trivial⟩ (IX hG a b q0 q1)
 ·cases h
theorem gR {a b : zh} (h : zo a ≠ 0) : [] = Xa a b ∧ zo a = XQ a b := by
 have e : XQ a b = zo a := by unfold XQ; rw [bne_iff_ne.2 h]; rfl
 exact ⟨by unfold Xa; rw [e, beq_eq_false_iff_ne.2 h]; rfl, e.symm⟩
theorem HZ {a b : zh} (h0 : zo a = 0) (h : zo b ≠ 0) : [] = Xa a b ∧ zo b = XQ a b := by
 have e : XQ a b = zo b := by unfold XQ; rw [h0, bne_iff_ne.2 h]; rfl
 exact ⟨by unfold Xa; rw [e, beq_eq_false_iff_ne.2 h]; rfl, e.symm⟩
theorem gQ {a b : zh} (ha : zo a = 0) (hb : zo b = 0) : LH ⟨zO a, Zo a⟩ ⟨zO b, Zo b⟩ = Xa a b ∧ qE ⟨zO a, Zo a⟩ ⟨zO b, Zo b⟩ = XQ a b := by
 obtain ⟨_, _, a3, a4⟩ := MY ha
 obtain ⟨_, _, b3, b4⟩ := MY hb
 have pa := Zb (Zu.1 ha).1
 have pb := Zb (Zu.1 hb).1
 have e : qE ⟨zO a, Zo a⟩ ⟨zO b, Zo b⟩ = XQ a b := by
  unfold qE XQ
  rw [a3, a4, b3, b4, ha, hb]; rfl
 refine ⟨?_, e⟩
 unfold LH Xa
 rw [e]
 cases XQ a b == 0 with
 | false => rfl
 | true =>
  simp only [cond_true]
  rw [a3, a4, b3, b4]
  have hp : (0 : Int) < (zP a : Int) * (zP b : Int) := Int.mul_pos (by omega) (by omega)
  unfold wm
  rw [show zn ((zP a : Int) * (zP b : Int)) 0 = false from Bool.eq_false_iff.2 fun e => by have := (zq _ _).1 e; omega, cond_false, ← Int.natCast_mul, Int.toNat_natCast]
theorem lc {a b : zh} (ha : Zk a = true) (hb : Zk b = true) :
  XQ a b = 0 ∧ Xa a b = wm (zL a * zL b) ((zP a : Int) * (zP b : Int)) ∧ (zP a : Int) * (zP b : Int) ≠ 0 ∧
  (-1000000000000000000 ≤ (zP a : Int) * (zP b : Int) ∧ (zP a : Int) * (zP b : Int) ≤ 1000000000000000000) ∧
  (-1000000000000000000 ≤ zL a * zL b ∧ zL a * zL b ≤ 1000000000000000000) := by
 obtain ⟨a1, a2, a3⟩ := XG ha
 obtain ⟨b1, b2, b3⟩ := XG hb
 have pa := Zb (Zu.1 a1).1
 have pb := Zb (Zu.1 b1).1
 have m1 := xz (a := zL a) (b := zL b) ⟨by omega, by omega⟩ ⟨by omega, by omega⟩
 have m3 := xz (a := (zP a : Int)) (b := (zP b : Int)) ⟨by omega, by omega⟩ ⟨by omega, by omega⟩
 have hp : (0 : Int) < (zP a : Int) * (zP b : Int) := Int.mul_pos (by omega) (by omega)
 have e : XQ a b = 0 := by
  unfold XQ
  rw [a1, b1, (ZW (n := zL a * zL b) (k := 20) (by omega) (by omega) (by omega)).2, (ZW (n := (zP a : Int) * (zP b : Int)) (k := 20) (by omega) (by omega) (by omega)).2]
  rfl
 refine ⟨e, ?_, by omega, ⟨by omega, by omega⟩, ⟨by omega, by omega⟩⟩
 unfold Xa
 rw [e]
 show ZQ _ _ = _
 unfold wm
 rw [show zn ((zP a : Int) * (zP b : Int)) 0 = false from Bool.eq_false_iff.2 fun e => by have := (zq _ _).1 e; omega, cond_false, ← Int.natCast_mul, Int.toNat_natCast]
def Q9 : List AV → Option (List zN × AV)
 | [.str a, .str b] => some ([.p (a.length ≤ 9223372036854775807), .p (b.length ≤ 9223372036854775807)], .tup 2 (zT [.str (Xa a b), .i (XQ a b)]))
 | _ => none
theorem L5 (G : List (Nat × Obj)) (a : List UInt8) (b : List UInt8) (hla : a.length ≤ 9223372036854775807) (hlb : b.length ≤ 9223372036854775807) :
 let q2 := (True ∧ bA #[] = Xa a b); let q5 := (Value.agg #[Value.string (ByteArray.mk #[]), Value.string (ByteArray.mk #[])]); let q4 := (fun (i : Nat) => if 0 ≤ i ∧ i < 0 + 2 then zT [AV.str (bif zo a == iZ then zO a else []), AV.str (bif zo a == iZ then Zo a else [])] (i - 0) else Zf q5 i); let q3 := (Pt.mk (AV.bytes (q4 0)) (AV.bytes (q4 1))); let q6 := (Pt.d q3); let q8 := (fun (i : Nat) => if 0 ≤ i ∧ i < 0 + 2 then zT [AV.str (bif zo b == iZ then zO b else []), AV.str (bif zo b == iZ then Zo b
 else [])] (i - 0) else Zf q5 i); let q7 := (Pt.mk (AV.bytes (q8 0)) (AV.bytes (q8 1))); let q9 := (Pt.d q7); let q1 := (lN a ≤ nX ∧ zZ (zo a != iZ) (j2 ∧ q2 ∧ kI ∧ zo a = XQ a b) (lN b ≤ nX ∧ zZ (zo b != iZ) (j2 ∧ q2 ∧ kI ∧ zo b = XQ a b) ((Zt (Pt.n q3) = iZ ∧ Zt q6 = iZ ∧ zt q6 ≠ iZ) ∧ (Zt (Pt.n q7) = iZ ∧ Zt q9 = iZ ∧ zt q9 ≠ iZ) ∧ 2 = lN [AV.junk,
 AV.junk] ∧ (True ∧ LH q3 q7 = Xa a b) ∧ kI ∧ qE q3 q7 = XQ a b))); let q12 := (Value.agg #[Value.int .i64 iZ, Value.int .i64 iZ]); let q11 := (fun (i : Nat) => if 0 ≤ i ∧ i < 0 + 2 then zT [AV.i (bif Zk a then zL a else iZ), AV.i (bif Zk a then (cI (zP a)) else iZ)] (i - 0) else Zf q12 i); let q10 := (Nt.mk (AV.int (q11 0)) (AV.int (q11 1))); let q14 := (fun (i : Nat) => if 0 ≤ i ∧ i < 0 + 2 then zT [AV.i (bif Zk b then zL b else iZ), AV.i (bif Zk b then (cI (zP b)) else iZ)] (i - 0) else Zf q12
 i); let q13 := (Nt.mk (AV.int (q14 0)) (AV.int (q14 1))); let q16 := (Nt.mk (Nt.n q10 * Nt.n q13) (Nt.d q10 * Nt.d q13)); let q15 := (Nt.mk (AV.int (aI (Nt.n q16))) (AV.int (aI (Nt.d q16)))); zB [AV.str a, AV.str b] → lN a ≤ nX ∧ zZ (!Zk a) q1 (lN b ≤ nX ∧ zZ (!Zk b) q1 ((((-99999999 : Int) ≤ Nt.n q10 ∧ Nt.n q10 ≤ (99999999 : Int)) ∧ iZ < Nt.d q10 ∧ Nt.d q10 ≤ (99999999 : Int)) ∧ (((-99999999 : Int) ≤ Nt.n q13 ∧ Nt.n q13 ≤ (99999999 : Int)) ∧ iZ < Nt.d q13 ∧ Nt.d q13 ≤ (99999999
 : Int)) ∧ Nt.d q15 ≠ iZ ∧ ((-1000000000000000000 : Int) ≤ Nt.d q15 ∧ Nt.d q15 ≤ (1000000000000000000 : Int)) ∧ ((-1000000000000000000 : Int) ≤ Nt.n q15 ∧ Nt.n q15 ≤ (1000000000000000000 : Int)) ∧ j2 ∧ (True ∧ wm (Nt.n q15) (Nt.d q15) = Xa a b) ∧ kI ∧ iZ = XQ a b)) := by
 delta bA nX cI kI j2 lN iZ aI
 dsimp only
 intro hb
 simp only [sS, dS]
 refine ⟨hla, zu.2 ⟨fun c => ?_, fun c => ⟨hlb, zu.2 ⟨fun c2 => ?_, fun c2 => ?_⟩⟩⟩⟩
 rotate_left 2
 ·rw [Bool.not_eq_false'] at c c2
  obtain ⟨q1, q2, q3, q4, q5⟩ := lc c c2
  rw [q1, q2, c, c2]
  exact ⟨sw c, sw c2, q3, q4, q5, rfl, rfl, rfl⟩
 all_goals
  refine ⟨hla, fun h => ⟨rfl, gR h⟩, fun h0 => ⟨hlb, fun h => ⟨rfl, HZ h0 h⟩, fun h1 => ?_⟩⟩
  obtain ⟨q1, q2⟩ := gQ h0 h1
  rw [h0, h1]
  exact ⟨V4 h0, V4 h1, rfl, q1, q2⟩
theorem JK {G : List (Nat × Obj)} (hG : zM G) (a : List UInt8) (b : List UInt8) (hla : a.length ≤ 9223372036854775807) (hlb : b.length ≤ 9223372036854775807) : zS Tryz.prog G 128 [.str a, .str b] (.tup 2 (zT [.str (Xa a b), .i (XQ a b)])) :=
 zV (T := (gG G).body Tryz.prog Gp) (an := .auto) mixed (zY.body mixed (V2 hG) _) (Eq.mp (by kernel_rfl) (L5 G a b hla hlb))
theorem IC {G : List (Nat × Obj)} (hG : zM G) : zQ Tryz.prog G 128 Q9 := by
 intro xs ps r h hp
 unfold Q9 at h
 split at h
 ·skip
  rename_i a b
  cases h
  obtain ⟨q0, q1, -⟩ := Zx hp
  exact weaken (ys := [.str a, .str b]) ⟨zX _, zX _, trivial⟩ (JK hG a b q0 q1)
 ·cases h
end Go.Te

namespace Go.Te
open Go Go.Sx Go.Proofs Go.Ar
set_option maxRecDepth 100000
def jv (k : Nat) (a : zh) : Prop := zo a = 0 ∧ (zL a).natAbs < 10 ^ k ∧ zP a < 10 ^ k ∧ 0 < zP a
theorem vH {n : Int} {d k : Nat} (hk : 0 < k) (hk3 : k ≤ 300) (hd : 0 < d) (hn : n.natAbs < 10 ^ k) (hd2 : d < 10 ^ k) : jv k (ZQ n d) ∧ zL (ZQ n d) * (d : Int) = n * (zP (ZQ n d) : Int) ∧ (ZQ n d).length ≤ 700 := by
 obtain ⟨p1, p2, p3, p4⟩ := uh n hd
 obtain ⟨q1, q2, _⟩ := SP (n := n) hd
 have hg : 0 < Nat.gcd n.natAbs d := Nat.gcd_pos_of_pos_right _ hd
 have hnv : ((Nat.gcd n.natAbs d : Nat) : Int) ∣ n := Int.ofNat_dvd_left.2 (Nat.gcd_dvd_left _ _)
 have hn2 : (n / (Nat.gcd n.natAbs d : Int)).natAbs < 10 ^ k := by
  rw [← Int.tdiv_eq_ediv_of_dvd hnv]
  exact Nat.lt_of_le_of_lt (Int.natAbs_tdiv_le_natAbs n _) hn
 have hd3 : d / Nat.gcd n.natAbs d < 10 ^ k := Nat.lt_of_le_of_lt (Nat.div_le_self _ _) hd2
 obtain ⟨s1, s2, s3, s4, s5⟩ := xL (n / (Nat.gcd n.natAbs d : Int)) q2
 have a1 : Vk (n / (Nat.gcd n.natAbs d : Int)) ≤ k := WV hk hn2
 have a2 : Lib.nDigits (d / Nat.gcd n.natAbs d) ≤ k := (Z7 hk).2 hd3
 have hE : zo (ZQ n d) = 0 := by
  refine Zu.2 ⟨p1, ?_, ?_, p4⟩
  ·show Xd (zO (y6 _ _)) ≤ 300
   rw [s4]; omega
  ·show (zG (y6 _ _)).length ≤ 300
   rw [s5]; split <;> omega
 refine ⟨⟨hE, by rw [p2]; exact hn2, by rw [p3]; exact hd3, by rw [p3]; exact q2⟩, oG n hd, ?_⟩
 show (y6 _ _).length ≤ 700
 unfold y6
 rw [List.length_append, Yf]
 have b2 : (bif Nat.beq (d / Nat.gcd n.natAbs d) 1 then [] else 47 :: Lib.decDigits (d / Nat.gcd n.natAbs d)).length ≤ 301 := by
  cases Nat.beq (d / Nat.gcd n.natAbs d) 1 with
  | true => simp
  | false => rw [cond_false, List.length_cons, Lib.decDigits_length]; omega
 split <;> omega
theorem XM {a b j k : Nat} (ha : a < 10 ^ j) (hb : b < 10 ^ k) : a * b < 10 ^ (j + k) := by
 rw [Nat.pow_add]
 exact Nat.mul_lt_mul'' ha hb
theorem IS {f : Int → Int → Int} (hf : ∀ u v, (f u v).natAbs ≤ u.natAbs + v.natAbs) {a b : zh} {j k : Nat} (hj : 0 < j) (hjk : j + k < 300) (ha : jv j a) (hb : jv k b) :
  yD f a b = 0 ∧ jv (j + k + 1) (YD f a b) ∧ YD f a b = ZQ (f (zL a * (zP b : Int)) (zL b * (zP a : Int))) (zP a * zP b) := by
 obtain ⟨a1, a2, a3, a4⟩ := ha
 obtain ⟨b1, b2, b3, b4⟩ := hb
 have m1 : (zL a * (zP b : Int)).natAbs < 10 ^ (j + k) := by rw [Int.natAbs_mul, Int.natAbs_natCast]; exact XM a2 b3
 have m2 : (zL b * (zP a : Int)).natAbs < 10 ^ (j + k) := by rw [Int.natAbs_mul, Int.natAbs_natCast, Nat.mul_comm]; exact XM a3 b2
 have m3 : zP a * zP b < 10 ^ (j + k) := XM a3 b3
 have hN := hf (zL a * (zP b : Int)) (zL b * (zP a : Int))
 have m4 : (f (zL a * (zP b : Int)) (zL b * (zP a : Int))).natAbs < 10 ^ (j + k + 1) := by
  rw [Nat.pow_succ]; omega
 have m5 : zP a * zP b < 10 ^ (j + k + 1) := by rw [Nat.pow_succ]; omega
 have eN : SE f a b = f (zL a * (zP b : Int)) (zL b * (zP a : Int)) := rfl
 have e : yD f a b = 0 := by
  unfold yD Yw
  rw [a1, b1, (ZW (k := j + k) (by omega) (by omega) m1).2, (ZW (k := j + k) (by omega) (by omega) m2).2, eN, (ZW (k := j + k + 1) (by omega) (by omega) m4).2,
   (ZW (n := (zP a : Int) * (zP b : Int)) (k := j + k) (by omega) (by omega) (by rw [← Int.natCast_mul, Int.natAbs_natCast]; exact m3)).2]
  rfl
 have es : YD f a b = ZQ (f (zL a * (zP b : Int)) (zL b * (zP a : Int))) (zP a * zP b) := by unfold YD; rw [e]; rfl
 refine ⟨e, ?_, es⟩
 rw [es]
 exact (vH (by omega) (by omega) (Nat.mul_pos a4 b4) m4 m5).1
theorem kh {a b : zh} {j k : Nat} (hj : 0 < j) (hjk : j + k < 300) (ha : jv j a) (hb : jv k b) :
  XQ a b = 0 ∧ jv (j + k) (Xa a b) ∧ Xa a b = ZQ (zL a * zL b) (zP a * zP b) := by
 obtain ⟨a1, a2, a3, a4⟩ := ha
 obtain ⟨b1, b2, b3, b4⟩ := hb
 have m1 : (zL a * zL b).natAbs < 10 ^ (j + k) := by rw [Int.natAbs_mul]; exact XM a2 b2
 have m3 : zP a * zP b < 10 ^ (j + k) := XM a3 b3
 have e : XQ a b = 0 := by
  unfold XQ
  rw [a1, b1, (ZW (k := j + k) (by omega) (by omega) m1).2,
   (ZW (n := (zP a : Int) * (zP b : Int)) (k := j + k) (by omega) (by omega) (by rw [← Int.natCast_mul, Int.natAbs_natCast]; exact m3)).2]
  rfl
 have es : Xa a b = ZQ (zL a * zL b) (zP a * zP b) := by unfold Xa; rw [e]; rfl
 refine ⟨e, ?_, es⟩
 rw [es]
 exact (vH (by omega) (by omega) (Nat.mul_pos a4 b4) m1 m3).1
end Go.Te
