/- root: the normal form and the ratio of roots, of numbers with few digits. -/
import Derived.Test.YthbpnknhfokadaaGreatDoorThQa
import Derived.Test.YthbpnknhfokadaaGreatDoorArZ
import Derived.Shelf.SlLaysF0
import Derived.Shelf.SlSortCmp.NoneTotal
import Derived.Test.YthbpnknhfokadaaGreatDoorSxSo
import Derived.Test.YthbpnknhfokadaaGreatDoorThS
import Derived.Test.YthbpnknhfokadaaGreatDoorProg
import Derived.Test.YthbpnknhfokadaaGreatDoorThIf
set_option linter.unusedSimpArgs false
set_option linter.unusedVariables false
namespace Go.Te
open Go Go.Sx Go.Proofs Go.Ar
set_option maxRecDepth 100000
set_option maxHeartbeats 4000000
def Sz : List AV → Option (List zn × AV)
 | [.v (.int .i64 n), .v (.int .i64 d)] => some ([.p (0 < n), .p (0 < d ∧ d ≤ 10000000000000000), .p (n * d ≤ 100000000000000000)], .tup 2 (zw [.str (ZW (nrm (n * d).toNat).1 d.toNat), .str (Lib.itoa (nrm (n * d).toNat).2)]))
 | _ => none
theorem LX {G : List (Nat × Obj)} (hG : zo G) : zp Tryz.prog G 124 Sz := by
 intro xs ps r h hp
 unfold Sz at h
 split at h
 ·rename_i n d
  cases h
  obtain ⟨q0, q1, q2, -⟩ := ZF hp
  have hs := Oj hG
  obtain ⟨_, t, fr, G', rfl⟩ := hG
  exact zW mixed hs (Eq.mp (by kernel_rfl) (mE t fr G' n d q0 q1 q2) : vC Tryz.prog (GM ((2, Obj.cells zm t fr) :: G')) 124 (nD (n * d).toNat) [.i n, .i d] (.tup 2 (zw [.str (ZW (nrm (n * d).toNat).1 d.toNat), .str (Lib.itoa (nrm (n * d).toNat).2)])))
 ·cases h
theorem rT {a : zj} (h : zh a = 0) (h0 : 0 ≤ zF a) : zL a = false := by
 have h2 := Rat.num_nonneg.2 h0
 rw [(ZA h).1] at h2
 have := (Sv (a := a)).1
 cases hm : zL a with
 | false => rfl
 | true =>
  rw [hm, cond_true] at this
  have hz : zM a = 0 := by omega
  have e := wv (Zq.1 h).1
  rw [hz] at e
  rw [← e] at hm
  have : ∀ r : zj, zL (Lib.itoa ((0 : Nat) : Int) ++ r) = false := fun r => by rw [Go.Ar.Z8, z8 (by omega)]; rfl
  have := this (bif Nat.beq (zP a) 1 then [] else 47 :: Lib.decDigits (zP a))
  unfold YM at hm
  rw [show Lib.itoa (0 : Int) = Lib.itoa ((0 : Nat) : Int) from rfl, this] at hm
  cases hm
theorem Kp {n : Int} (h : 0 ≤ n) : zL (Lib.itoa n) = false ∧ zR (Lib.itoa n) = Lib.itoa n := by
 obtain ⟨m, rfl⟩ : ∃ m : Nat, n = m := ⟨n.toNat, by omega⟩
 have hd := (Zr.1 (Yu m))
 have hm : zL (Lib.itoa (m : Int)) = false := by
  rw [Go.Ar.Z8]
  match hq : Lib.decDigits m, hd with
  | c :: r, hd =>
   have := y9.1 (hd.2.1 c List.mem_cons_self)
   exact beq_eq_false_iff_ne.2 fun e => by subst e; exact absurd this.1 (by decide)
 refine ⟨hm, ?_⟩
 unfold zR
 rw [hm]; rfl
theorem Sn (n : Int) : (zR (Lib.itoa n)).length = Xx n := by
 by_cases h : 0 ≤ n
 ·rw [(Kp h).2, x7, if_neg (by omega)]; rfl
 ·have e : Lib.itoa n = 45 :: Lib.decDigits n.natAbs := by
   have := Go.Ar.itoa_neg (n := n.natAbs) (by omega)
   rw [show -((n.natAbs : Nat) : Int) = n by omega] at this
   exact this
  rw [e]
  show (Lib.decDigits n.natAbs).length = _
  rw [Lib.decDigits_length]; rfl
def Ic (r : AV) : List AV → Option (List zn × AV) := fun _ => some ([.p False], r)
theorem pE {P : Program} {G : List (Nat × Obj)} {f : FuncId} (r : AV) : zp P G f (Ic r) := by
 intro xs ps r' h hp
 cases h
 exact (hp _ List.mem_cons_self).elim
def Ra : List AV → Option (List zn × AV)
 | [.str a] => some ([.p (Ym 300 a)], .agg 2 (zw [.str (Lib.itoa (zF a).num), .str (Lib.itoa ((zF a).den : Int))]))
 | _ => none
theorem jl (G : List (Nat × Obj)) (a : List UInt8) (hr : Ym 300 a) :
 Zt [AV.str a] → Ym 300 a ∧ 2 = 2 ∧ Lib.itoa (Rat.num (zF a)) = Lib.itoa (Rat.num (zF a)) ∧ Lib.itoa (cI (Rat.den (zF a))) = Lib.itoa (cI (Rat.den (zF a))) := by
 delta cI
 intro hb
 simp only [sS, dS]
 exact hr
theorem I3 {G : List (Nat × Obj)} (hG : zo G) (a : List UInt8) (hr : Ym 300 a) : zU Tryz.prog G 112 [.str a] (.agg 2 (zw [.str (Lib.itoa (zF a).num), .str (Lib.itoa ((zF a).den : Int))])) :=
 zW (T := (W2 G).plus 85 sP) (an := .auto) mixed (zz.plus zQ (QQ hG)) (Eq.mp (by kernel_rfl) (jl G a hr))
theorem Nu {G : List (Nat × Obj)} (hG : zo G) : zp Tryz.prog G 112 Ra := by
 intro xs ps r h hp
 unfold Ra at h
 split at h
 ·skip
  rename_i a
  cases h
  obtain ⟨q0, -⟩ := ZF hp
  exact weaken (ys := [.str a]) ⟨zT _, trivial⟩ (I3 hG a q0)
 ·cases h
def uL : List AV → Option (List zn × AV)
 | [.str m] => some ([.p (Zy m = true), .p (m.length ≤ 17)], .tup 2 (zw [.i (zY m), .b true]))
 | _ => none
theorem lQ (m : List UInt8) (hi : Zy m = true) (hl : m.length ≤ 17) :
 Zt [AV.str m] → zZ (zg (17 : Int) (lZ m)) (j2 ∧ (True ∧ kI ∧ iZ = zY m) ∧ false = true) (bF (Zy m) (lN m ≤ 18 ∧ j2 ∧ (True ∧ kI ∧ zY m = zY m) ∧ true = true)) := by
 delta bF kI j2 lZ lN iZ
 intro hb
 simp only [sS, dS]
 refine ⟨fun h => by omega, fun _ => ?_⟩
 rw [hi]
 exact ⟨by omega, rfl⟩
theorem K2 (m : List UInt8) (hi : Zy m = true) (hl : m.length ≤ 17) : zU Tryz.prog [] 123 [.str m] (.tup 2 (zw [.i (zY m), .b true])) :=
 zW (T := T0.plus 145 VI) (an := .auto) mixed (zz.plus zQ Sl) (Eq.mp (by kernel_rfl) (lQ m hi hl))
theorem Pl : zp Tryz.prog [] 123 uL := by
 intro xs ps r h hp
 unfold uL at h
 split at h
 ·skip
  rename_i m
  cases h
  obtain ⟨q0, q1, -⟩ := ZF hp
  exact weaken (ys := [.str m]) ⟨zT _, trivial⟩ (K2 m q0 q1)
 ·cases h
def SC : List AV → Option (List zn × AV)
 | [.str s, .str p] => some ([.b (p == [45]), .p (zL s = false)], .b false)
 | _ => none
theorem LB : zp Tryz.prog [] 44 SC := by
 intro xs ps r h hp
 unfold SC at h
 split at h
 ·rename_i s p
  cases h
  have q : (p == [45]) = true := hp _ List.mem_cons_self
  have q1 : zL s = false := hp _ (List.mem_cons_of_mem _ List.mem_cons_self)
  have : zU Tryz.prog [] 44 [.str s, .str p] (.b (zL s)) := SI [.str s, .str p] _ _ rfl fun c hc => by
   rw [List.mem_singleton] at hc
   rw [hc]; exact q
  rw [q1] at this
  exact this
 ·cases h
noncomputable def gg (G : List (Nat × Obj)) : Tb := (((((W2 G).plus 43 Se).plus 112 Ra).plus 95 (Yk fun s => .str (zR s))).plus 44 SC).body Tryz.prog [(154, .auto)]
theorem TV {G : List (Nat × Obj)} (hG : zo G) : zz Tryz.prog (gg G) := zz.body mixed (zz.plus (zz.plus (zz.plus (zz.plus zQ (Qw hG)) (Nu hG)) (zp.mono VZ)) (zp.mono LB)) _
def kP  : yS :=
 .two .auto (.two (.two .auto (.one (.unroll 2 .auto))) (.two (.two .auto (.one (.unroll 2 .auto))) .auto))
def l7  : yS :=
 .two .auto (.two (.two .auto (.one (.unroll 3 .auto))) (.two (.two .auto (.one (.unroll 3 .auto))) .auto))
theorem nW {x : Rat} (h : bq 90 x) : (zR (Lib.itoa x.num)).length ≤ 90 ∧ (Lib.itoa (x.den : Int)).length ≤ 90 := by
 rw [Sn, Go.Ar.Z8, Lib.decDigits_length]
 exact ⟨xK (by decide) h.1, (ZX (by decide)).2 h.2⟩
structure Ot (a : zj) : Prop where
 ok : Ym 90 a
 pos : 0 ≤ zF a
theorem SP {a : zj} (h : Ot a) : Ym 300 a ∧ (zR (Lib.itoa (zF a).num)).length ≤ 90 ∧ (Lib.itoa ((zF a).den : Int)).length ≤ 90 ∧ zL a = false := ⟨h.1.mono (by decide), (nW h.1.2).1, (nW h.1.2).2, rT h.1.1 h.2⟩
theorem kG (G : List (Nat × Obj)) (a : zj) (ha : Ot a) :
 let q1 := (lZ (Lib.itoa (cI (Rat.den (zF a))))); let q2 := (lZ (zR (Lib.itoa (Rat.num (zF a))))); Zt [AV.xl false 1 1 fun (x x_1 : Nat) => AV.str a, AV.xl false 1 1 fun (x x_1 : Nat) => AV.str a] → Ym 300 a ∧ Ym 300 a ∧ zZ (zg (90 : Int) (if q1 > q2 then q1 else q2)) (kI ∧ (4 : Int) = iZ) (zL a = false ∧ kI ∧ iZ = iZ) := by
 delta cI kI lZ iZ
 dsimp only
 intro hb
 simp only [sS, dS]
 obtain ⟨a1, a2, a3, a4⟩ := SP ha
 exact ⟨a1, a1, fun h => by split at h <;> omega, fun _ => a4⟩
theorem LW (G : List (Nat × Obj)) (a b : zj) (ha : Ot a) (hc : Ot b) :
 let q1 := (lZ (Lib.itoa (cI (Rat.den (zF a))))); let q2 := (lZ (zR (Lib.itoa (Rat.num (zF a))))); let q3 := (kI ∧ (4 : Int) = iZ); let q4 := (lZ (Lib.itoa (cI (Rat.den (zF b))))); let q5 := (lZ (zR (Lib.itoa (Rat.num (zF b))))); Zt [AV.xl false 1 2 fun (i x : Nat) => zw [AV.str a, AV.str b] i, AV.xl false 1 2 fun (i x : Nat) => zw [AV.str a, AV.str b] i] → Ym 300 a ∧ Ym 300 a ∧ zZ (zg (90 : Int) (if q1 > q2 then q1 else q2)) q3 (Ym 300 b ∧ Ym 300 b ∧ zZ (zg (90
 : Int) (if q4 > q5 then q4 else q5)) q3 (zL a = false ∧ zL b = false ∧ kI ∧ iZ = iZ)) := by
 delta cI kI lZ iZ
 dsimp only
 intro hb
 simp only [sS, dS]
 obtain ⟨a1, a2, a3, a4⟩ := SP ha
 obtain ⟨b1, b2, b3, b4⟩ := SP hc
 exact ⟨a1, a1, fun h => by split at h <;> omega, fun _ => ⟨b1, b1, fun h => by split at h <;> omega, fun _ => ⟨a4, b4⟩⟩⟩
theorem PM {f : Bool} {x : Nat → Nat → AV} {a : zj} (h : ZM (x 0 0) = true) (e : AV.bytes (x 0 0) = a) : zE (.xl f 1 1 x) (.xl false 1 1 fun _ _ => .str a) := by
 refine ⟨(fun h => by cases h), rfl, rfl, fun i j hi hj => ?_⟩
 obtain rfl : i = 0 := by omega
 obtain rfl : j = 0 := by omega
 rw [← e]
 exact ZS (XT h)
theorem PR {f : Bool} {x : Nat → Nat → AV} {a b : zj} (h : ZM (x 0 0) = true) (h2 : ZM (x 1 0) = true) (e : AV.bytes (x 0 0) = a) (e2 : AV.bytes (x 1 0) = b) : zE (.xl f 1 2 x) (.xl false 1 2 fun i _ => zw [.str a, .str b] i) := by
 refine ⟨(fun h => by cases h), rfl, rfl, fun i j hi hj => ?_⟩
 obtain rfl : j = 0 := by omega
 rw [← e, ← e2]
 match i, hi with
 | 0, _ => exact ZS (XT h)
 | 1, _ => exact ZS (XT h2)
def PK : List AV → Option (List zn × AV)
 | [.xl _ 1 1 x, .xl _ 1 1 y] => some ([.b (ZM (x 0 0) && ZM (y 0 0) && (AV.bytes (y 0 0) == AV.bytes (x 0 0))), .p (Ot (AV.bytes (x 0 0)))], .i 0)
 | [.xl _ 1 2 x, .xl _ 1 2 y] => some ([.b (ZM (x 0 0) && ZM (x 1 0) && ZM (y 0 0) && ZM (y 1 0) && (AV.bytes (y 0 0) == AV.bytes (x 0 0)) && (AV.bytes (y 1 0) == AV.bytes (x 1 0))), .p (Ot (AV.bytes (x 0 0))), .p (Ot (AV.bytes (x 1 0)))], .i 0)
 | _ => none
theorem jx {G : List (Nat × Obj)} (hG : zo G) : zp Tryz.prog G 110 PK := by
 intro xs ps r h hp
 unfold PK at h
 split at h
 ·rename_i x _ y
  cases h
  have q0 : (ZM (x 0 0) && ZM (y 0 0) && (AV.bytes (y 0 0) == AV.bytes (x 0 0))) = true := hp _ List.mem_cons_self
  have q1 := hp _ (List.mem_cons_of_mem _ List.mem_cons_self)
  simp only [Bool.and_eq_true, beq_iff_eq] at q0
  exact weaken (ys := [_, _]) ⟨PM q0.1.1 rfl, PM q0.1.2 q0.2, trivial⟩ (zW mixed (TV hG) (Eq.mp (by kernel_rfl) (kG G (AV.bytes (x 0 0)) q1) : vC Tryz.prog (gg G) 110 kP [.xl false 1 1 (fun _ _ => .str (AV.bytes (x 0 0))), .xl false 1 1 (fun _ _ => .str (AV.bytes (x 0 0)))] (.i 0)))
 ·rename_i x _ y
  cases h
  have q0 : (ZM (x 0 0) && ZM (x 1 0) && ZM (y 0 0) && ZM (y 1 0) && (AV.bytes (y 0 0) == AV.bytes (x 0 0)) && (AV.bytes (y 1 0) == AV.bytes (x 1 0))) = true := hp _ List.mem_cons_self
  have q1 := hp _ (List.mem_cons_of_mem _ List.mem_cons_self)
  have q2 := hp _ (List.mem_cons_of_mem _ (List.mem_cons_of_mem _ List.mem_cons_self))
  simp only [Bool.and_eq_true, beq_iff_eq] at q0
  exact weaken (ys := [_, _]) ⟨PR q0.1.1.1.1.1 q0.1.1.1.1.2 rfl rfl, PR q0.1.1.1.2 q0.1.1.2 q0.1.2 q0.2, trivial⟩ (zW mixed (TV hG) (Eq.mp (by kernel_rfl) (LW G (AV.bytes (x 0 0)) (AV.bytes (x 1 0)) q1 q2) : vC Tryz.prog (gg G) 110 l7 [.xl false 1 2 (fun i _ => zw [.str (AV.bytes (x 0 0)), .str (AV.bytes (x 1 0))] i), .xl false 1 2 (fun i _ => zw [.str (AV.bytes (x 0 0)), .str (AV.bytes (x 1 0))] i)] (.i 0)))
 ·cases h
theorem px (n : Int) : 0 < Xx n := by
 unfold Xx
 rw [← Lib.decDigits_length]
 exact yk _
theorem w5 (n : Int) : n.natAbs < 10 ^ Xx n := (ZX (px n)).1 (Nat.le_refl _)
theorem Rx {n : Int} (h : n ≠ 0) : (Lib.itoa n == [48]) = false := beq_eq_false_iff_ne.2 fun e => by
 have := (zC n).2
 rw [e] at this
 have h0 : zY [48] = 0 := by decide
 omega
theorem WZ (k : Nat) : zt (k : Rat) = Lib.itoa (k : Int) := by rw [← Rat.intCast_natCast, UC]
structure li (a : zj) : Prop where
 ok : Ym 90 a
 pos : 0 < zF a
 len : Xx (zF a).num + Lib.nDigits (zF a).den ≤ 17
noncomputable def GX (G : List (Nat × Obj)) : Tb := ((((((W2 G).plus 110 PK).plus 112 Ra).plus 123 uL).plus 124 Sz).plus 125 (Ic (.str []))).plus 126 (Ic .junk)
theorem oT {G : List (Nat × Obj)} (hG : zo G) : zz Tryz.prog (GX G) := zz.plus (zz.plus (zz.plus (zz.plus (zz.plus (zz.plus zQ (jx hG)) (Nu hG)) (zp.mono Pl)) (LX hG)) (pE _)) (pE _)
def nK (x : Rat) : Rat := mkRat (nrm (mQ x)).1 x.den
def nL (x : Rat) : Rat := ((nrm (mQ x)).2 : Rat)
def uM : List AV → Option (List zn × AV)
 | [.str q] => some ([.p (li q)], .tup 3 (zw [.str (zt (nK (zF q))), .str (zt (nL (zF q))), .i 0]))
 | _ => none
theorem MZ (G : List (Nat × Obj)) (q : List UInt8) (hr : li q) :
 Zt [AV.str q] → zZ (ZM (AV.str q) && ZM (AV.str q) && AV.bytes (AV.str q) == AV.bytes (AV.str q)) (Ot (AV.bytes (AV.str q)) ∧ Ym 300 q ∧ zZ (Lib.itoa (Rat.num (zF q)) == bA #[(48 : UInt8)]) (3 = lN [AV.junk, AV.junk, AV.junk] ∧ ((True ∧ bA #[(48 : UInt8)] = zt (nK (zF q))) ∧ bA #[(49 : UInt8)] = zt (nL (zF q))) ∧ kI ∧ iZ = iZ) (bF (DB.db (yR .i64 ((lZ (Lib.itoa (Rat.num (zF q)))) +
 (lZ (Lib.itoa (cI (Rat.den (zF q)))))))) (zZ (leB ((lZ (Lib.itoa (Rat.num (zF q)))) + (lZ (Lib.itoa (cI (Rat.den (zF q)))))) (17 : Int)) (Zy (Lib.itoa (Rat.num (zF q))) = true ∧ lN (Lib.itoa (Rat.num (zF q))) ≤ 17 ∧ Zy (Lib.itoa (cI (Rat.den (zF q)))) = true ∧ lN (Lib.itoa (cI (Rat.den (zF q)))) ≤ 17 ∧ iZ < zY (Lib.itoa (Rat.num (zF q))) ∧ (iZ < zY (Lib.itoa (cI (Rat.den (zF q)))) ∧ zY (Lib.itoa (cI (Rat.den (zF q)))) ≤ (10000000000000000 : Int)) ∧ zY (Lib.itoa
 (Rat.num (zF q))) * zY (Lib.itoa (cI (Rat.den (zF q)))) ≤ (100000000000000000 : Int) ∧ 3 = lN [AV.junk, AV.junk, AV.junk] ∧ ((True ∧ ZW (↑(Prod.fst (nrm (Int.toNat (zY (Lib.itoa (Rat.num (zF q))) * zY (Lib.itoa (cI (Rat.den (zF q)))))))) : Int) (Int.toNat (zY (Lib.itoa (cI (Rat.den (zF q)))))) = zt (nK (zF q))) ∧ Lib.itoa (↑(Prod.snd (nrm (Int.toNat (zY (Lib.itoa (Rat.num (zF q))) * zY (Lib.itoa (cI (Rat.den (zF q)))))))) : Int) = zt (nL (zF q))) ∧ kI ∧ iZ = iZ) (False ∧ False ∧ ZE (Operand.tmp 66)))))
 False := by
 delta bF bA cI kI lZ lN iZ
 intro hb
 simp only [sS, dS]
 have hc : Ot q := ⟨hr.ok, Rat.le_of_lt hr.pos⟩
 have c1 : (ZM (AV.str q) && ZM (AV.str q) && (AV.str q).bytes == (AV.str q).bytes) = true := by
  show (true && true && (q == q)) = true
  simp
 have h300 := hr.ok.mono (k := 300) (by decide)
 have hl := hr.len
 have hp := hr.pos
 generalize zF q = x at *
 have hn : 0 < x.num := by
  have := Rat.num_nonneg.2 (Rat.le_of_lt hp)
  have h2 : x.num ≠ 0 := fun e => (Rat.ne_of_gt hp) (Rat.num_eq_zero.1 e)
  omega
 have hd := x.den_pos
 have l1 : (Lib.itoa x.num).length = Xx x.num := by rw [x7, if_neg (by omega)]; rfl
 have l2 : (Lib.itoa (x.den : Int)).length = Lib.nDigits x.den := by rw [Go.Ar.Z8, Lib.decDigits_length]
 have b1 := w5 x.num
 have b2 := w5 (x.den : Int)
 have e2 : Xx (x.den : Int) = Lib.nDigits x.den := by unfold Xx; rw [Int.natAbs_natCast]
 rw [e2, Int.natAbs_natCast] at b2
 have b3 : x.num.natAbs * x.den < 10 ^ 17 := by
  refine Nat.lt_of_lt_of_le (Nat.mul_lt_mul'' b1 b2) ?_
  rw [← Nat.pow_add]
  exact Nat.pow_le_pow_right (by omega) hl
 have p1 := px x.num
 have b4 : x.den < 10 ^ 16 := Nat.lt_of_lt_of_le b2 (Nat.pow_le_pow_right (by omega) (by omega))
 rw [show 10 ^ 16 = 10000000000000000 from by decide] at b4
 rw [show 10 ^ 17 = 100000000000000000 from by decide] at b3
 have i1 := zC x.num
 have i2 := zC (x.den : Int)
 have z1 : (Lib.itoa x.num == [48]) = false := Rx (by omega)
 have em : (x.num * (x.den : Int)).toNat = mQ x := by
  unfold mQ
  obtain ⟨N, hN⟩ : ∃ N : Nat, x.num = N := ⟨x.num.toNat, by omega⟩
  rw [hN, ← Int.natCast_mul, Int.toNat_natCast, Int.toNat_natCast]
 have eb : x.num * (x.den : Int) ≤ 100000000000000000 := by
  obtain ⟨N, hN⟩ : ∃ N : Nat, x.num = N := ⟨x.num.toNat, by omega⟩
  rw [hN, Int.natAbs_natCast] at b3
  rw [hN, ← Int.natCast_mul]
  omega
 rw [i1.2, i2.2, em, l1, l2, z1]
 refine zX.2 ⟨fun _ => ⟨hc, h300, ?_⟩, fun c => by rw [c1] at c; cases c⟩
 show yR .i64 _ ∧ _
 refine ⟨by simp only [yR]; omega, fun _ => ⟨i1.1, by omega, i2.1, by omega, hn, ⟨by omega, by omega⟩, eb, rfl, ?_, ?_⟩, fun h => by omega⟩
 ·rw [Int.toNat_natCast, Yg _ hd]; rfl
 ·exact (WZ _).symm
theorem LR {G : List (Nat × Obj)} (hG : zo G) (q : List UInt8) (hr : li q) : zU Tryz.prog G 83 [.str q] (.tup 3 (zw [.str (zt (nK (zF q))), .str (zt (nL (zF q))), .i 0])) :=
 zW (T := GX G) (an := .auto) mixed (oT hG) (Eq.mp (by kernel_rfl) (MZ G q hr))
theorem pL {G : List (Nat × Obj)} (hG : zo G) : zp Tryz.prog G 83 uM := by
 intro xs ps r h hp
 unfold uM at h
 split at h
 ·skip
  rename_i q
  cases h
  obtain ⟨q0, -⟩ := ZF hp
  exact weaken (ys := [.str q]) ⟨zT _, trivial⟩ (LR hG q q0)
 ·cases h
noncomputable def gb (G : List (Nat × Obj)) : Tb := (((NR G).plus 123 uL).plus 166 uG).plus 117 (Ic (.tup 2 (zw [.str [], .i 0]))) |>.plus 125 (Ic (.str []))
theorem OU {G : List (Nat × Obj)} (hG : zo G) : zz Tryz.prog (gb G) := zz.plus (zz.plus (zz.plus (zz.plus (YZ hG) (zp.mono Pl)) (zp.mono PY)) (pE _)) (pE _)
def qp : List AV → Option (List zn × AV)
 | [.str m] => some ([.p (Zy m = true), .p (m.length ≤ 17), .p (0 ≤ zY m)], .tup 2 (zw [.str (Lib.itoa (y7 (zY m).toNat : Int)), .b (Nat.beq (y7 (zY m).toNat * y7 (zY m).toNat) (zY m).toNat)]))
 | _ => none
theorem kJ (G : List (Nat × Obj)) (m : List UInt8) (hi : Zy m = true) (hl : m.length ≤ 17) (h0 : 0 ≤ zY m) :
 Zt [AV.str m] → Zy m = true ∧ lN m ≤ 17 ∧ (iZ ≤ zY m ∧ zY m ≤ (1000000000000000000 : Int)) ∧ (iN ≤ (cI (y7 (Int.toNat (zY m)))) ∧ (cI (y7 (Int.toNat (zY m)))) ≤ iX) ∧ bF (DB.db (yR .i64 ((cI (y7 (Int.toNat (zY m)))) * (cI (y7 (Int.toNat (zY m))))))) (j2 ∧ (True ∧ Lib.itoa (cI (y7 (Int.toNat (zY m)))) = Lib.itoa (cI (y7 (Int.toNat (zY m))))) ∧ ((cI (y7 (Int.toNat (zY m)))) * (cI (y7 (Int.toNat (zY m)))) == zY m) = Nat.beq (y7
 (Int.toNat (zY m)) * y7 (Int.toNat (zY m))) (Int.toNat (zY m))) := by
 delta bF cI j2 lN iZ iX iN
 intro hb
 simp only [sS, dS]
 obtain ⟨m', hm⟩ : ∃ k : Nat, zY m = k := ⟨(zY m).toNat, by omega⟩
 have hb2 : (zY m).natAbs < 10 ^ 17 := Nat.lt_of_lt_of_le (oF hi) (Nat.pow_le_pow_right (by omega) hl)
 rw [show 10 ^ 17 = 100000000000000000 from by decide] at hb2
 rw [hm, Int.natAbs_natCast] at hb2
 rw [hm, Int.toNat_natCast]
 obtain ⟨s1, s2⟩ := xM (n := m') (by omega)
 have hr : y7 m' < 1000000000 := xR (by omega)
 refine ⟨hi, hl, ⟨by omega, by omega⟩, ⟨by omega, by omega⟩, by rw [← Int.natCast_mul]; simp only [yR]; omega, rfl, ?_⟩
 rw [← Int.natCast_mul, Bool.eq_iff_iff, beq_iff_eq, Nat.beq_eq]
 omega
theorem Jf {G : List (Nat × Obj)} (hG : zo G) (m : List UInt8) (hi : Zy m = true) (hl : m.length ≤ 17) (h0 : 0 ≤ zY m) : zU Tryz.prog G 127 [.str m] (.tup 2 (zw [.str (Lib.itoa (y7 (zY m).toNat : Int)), .b (Nat.beq (y7 (zY m).toNat * y7 (zY m).toNat) (zY m).toNat)])) :=
 zW (T := gb G) (an := .auto) mixed (OU hG) (Eq.mp (by kernel_rfl) (kJ G m hi hl h0))
theorem i6 {G : List (Nat × Obj)} (hG : zo G) : zp Tryz.prog G 127 qp := by
 intro xs ps r h hp
 unfold qp at h
 split at h
 ·skip
  rename_i m
  cases h
  obtain ⟨q0, q1, q2, -⟩ := ZF hp
  exact weaken (ys := [.str m]) ⟨zT _, trivial⟩ (Jf hG m q0 q1 q2)
 ·cases h
structure jv (p q : zj) : Prop where
 fp : Ot p
 fq : Ot q
 pos : 0 < zF q
 num : Xx (zF p / zF q).num ≤ 17
 den : Lib.nDigits (zF p / zF q).den ≤ 17
noncomputable def Gn (G : List (Nat × Obj)) : Tb := ((((W2 G).plus 110 PK).plus 112 Ra).plus 66 Mh).plus 127 qp |>.body Tryz.prog [(111, .auto), (128, .auto)] |>.body Tryz.prog [(111, .auto)]
theorem Ob {G : List (Nat × Obj)} (hG : zo G) : zz Tryz.prog (Gn G) := zz.body mixed (zz.body mixed (zz.plus (zz.plus (zz.plus (zz.plus zQ (jx hG)) (Nu hG)) (Jx hG)) (i6 hG)) _) _
def uC : List AV → Option (List zn × AV)
 | [.str p, .str q] => some ([.p (jv p q)], .tup 3 (zw [.str (bif yF (zF p) (zF q) then zt (wj (zF p) (zF q)) else []), .b (yF (zF p) (zF q)), .i 0]))
 | _ => none
theorem kK (G : List (Nat × Obj)) (p : List UInt8) (q : List UInt8) (hr : jv p q) :
 let q1 := ((True ∧ bA #[] = bif yF (zF p) (zF q) then zt (wj (zF p) (zF q)) else []) ∧ false = yF (zF p) (zF q)); let q2 := (Lib.itoa (Rat.num (zF (zt (zF p / zF q))))); let q3 := (Lib.itoa (cI (Rat.den (zF (zt (zF p / zF q)))))); let q5 := (Int.toNat (zY q2)); let q4 := (y7 q5 * y7 q5); let q6 := (Int.toNat (zY q3)); let q7 := (Lib.itoa (cI (y7 q5))); let q8 := (Lib.itoa (cI (y7 q6))); Zt [AV.str p, AV.str q] → bF (ZM (AV.str p) && ZM (AV.str q) && ZM (AV.str p) && ZM (AV.str q) && AV.bytes
 (AV.str p) == AV.bytes (AV.str p) && AV.bytes (AV.str q) == AV.bytes (AV.str q)) (Ot (AV.bytes (AV.str p)) ∧ Ot (AV.bytes (AV.str q)) ∧ zZ (q == bA #[(48 : UInt8)]) (3 = lN [AV.junk, AV.junk, AV.junk] ∧ q1 ∧ kI ∧ (12 : Int) = iZ) (H6 p q ∧ Ym 300 (zt (zF p / zF q)) ∧ Zy q2 = true ∧ lN q2 ≤ 17 ∧ iZ ≤ zY q2 ∧ Zy q3 = true ∧ lN q3 ≤ 17 ∧ iZ ≤ zY q3 ∧ bF (!zS false !Nat.beq q4 q5 || zS false !Nat.beq q4 q5) (zZ (!!!Nat.beq q4 q5 || zS false !Nat.beq q4 q5)
 (zZ (bif !Nat.beq q4 q5 then true else !Nat.beq (y7 q6 * y7 q6) q6) (3 = lN [AV.junk, AV.junk, AV.junk] ∧ q1 ∧ kI ∧ iZ = iZ) (H6 q7 q8 ∧ 3 = lN [AV.junk, AV.junk, AV.junk] ∧ ((True ∧ zt (zF q7 / zF q8) = bif yF (zF p) (zF q) then zt (wj (zF p) (zF q)) else []) ∧ true = yF (zF p) (zF q)) ∧ kI ∧ iZ = iZ)) False))) := by
 delta bF bA cI kI lN iZ
 dsimp only
 intro hb
 simp only [sS, dS]
 have c1 : (ZM (AV.str p) && ZM (AV.str q) && ZM (AV.str p) && ZM (AV.str q) && (AV.str p).bytes == (AV.str p).bytes && (AV.str q).bytes == (AV.str q).bytes) = true := by
  show (true && true && true && true && (p == p) && (q == q)) = true
  simp
 have hz : (q == [48]) = false := beq_eq_false_iff_ne.2 fun e => by
  have := hr.pos
  rw [e] at this
  exact absurd this (by decide +kernel)
 have hne : zF q ≠ 0 := Rat.ne_of_gt hr.pos
 have hb1 : bq 180 (zF p / zF q) := by
  rw [Rat.div_def]
  have h2 := hr.fq.ok.bq
  refine Qz (j := 90) (k := 90) hr.fp.ok.bq ⟨?_, ?_⟩
  ·rw [Rat.num_inv, Int.natAbs_mul, Int.natAbs_natCast]
   have hs : (zF q).num.sign.natAbs ≤ 1 := by rw [Int.natAbs_sign]; split <;> omega
   exact Nat.lt_of_le_of_lt (Nat.mul_le_mul_right _ hs) (by rw [Nat.one_mul]; exact h2.den)
  ·rw [Rat.den_inv, if_neg fun e => hne (Rat.num_eq_zero.1 e)]
   exact h2.num
 have hX : 0 ≤ zF p / zF q := by
  rw [Rat.div_def]
  exact Rat.mul_nonneg hr.fp.pos (Rat.le_of_lt (Rat.inv_pos.2 hr.pos))
 have hn := hr.num
 have hd := hr.den
 have hv : H6 p q := ⟨hr.fp.ok.mono (by decide), hr.fq.ok.mono (by decide), hne⟩
 have eB : yF (zF p) (zF q) = I6 (zF p / zF q) := rfl
 have eV : wj (zF p) (zF q) = I9 (zF p / zF q) := rfl
 rw [eB, eV, hz]
 refine zX.2 ⟨fun _ => ⟨hr.fp, hr.fq, zX.2 ⟨fun c => (by cases c), fun _ => ⟨hv, (ZI (by decide) (by decide)).2 (hb1.mono (by decide)), ?_⟩⟩⟩, fun c => by rw [c1] at c; cases c⟩
 simp only [zk, (zC _).2]
 generalize zF p / zF q = x at *
 have hx := Rat.num_nonneg.2 hX
 have b1 := w5 x.num
 have e2 : Xx (x.den : Int) = Lib.nDigits x.den := by unfold Xx; rw [Int.natAbs_natCast]
 have b2 := w5 (x.den : Int)
 rw [e2, Int.natAbs_natCast] at b2
 have k1 : x.num.natAbs < 10 ^ 17 := Nat.lt_of_lt_of_le b1 (Nat.pow_le_pow_right (by omega) hn)
 have k2 : x.den < 10 ^ 17 := Nat.lt_of_lt_of_le b2 (Nat.pow_le_pow_right (by omega) hd)
 have k3 : (10 : Nat) ^ 17 = 100000000000000000 := by decide
 rw [k3] at k1 k2
 have l1 : (Lib.itoa x.num).length ≤ 17 := by rw [x7, if_neg (by omega)]; omega
 have l2 : (Lib.itoa (x.den : Int)).length ≤ 17 := by rw [Go.Ar.Z8, Lib.decDigits_length]; exact hd
 obtain ⟨N, hN⟩ : ∃ N : Nat, x.num = N := ⟨x.num.toNat, by omega⟩
 have dp := x.den_pos
 refine ⟨(zC _).1, l1, hx, (zC _).1, l2, by omega, ?_⟩
 unfold I6 I9
 rw [Int.toNat_natCast]
 obtain ⟨s1, s2⟩ := xM (n := x.num.toNat) (by omega)
 obtain ⟨t1, t2⟩ := xM (n := x.den) (by omega)
 have r1 : y7 x.num.toNat < 1000000000 := xR (by omega)
 have r2 : y7 x.den < 1000000000 := xR (by omega)
 have oi : ∀ a : Nat, a < 1000000000 → Ym 140 (Lib.itoa (a : Int)) := fun a ha => by
  rw [← WZ]
  refine (ZI (by decide) (by decide)).2 (bq.mono (j := 9) ⟨?_, ?_⟩ (by decide))
  ·rw [Rat.num_natCast, Int.natAbs_natCast]; exact ha
  ·rw [Rat.den_natCast]; decide
 have qi : ∀ a : Nat, zF (Lib.itoa (a : Int)) = (a : Rat) := fun a => by rw [← WZ, zk]
 rw [qi, qi]
 refine zX.2 ⟨fun c => ?_, fun c => ?_⟩
 ·have e : (Nat.beq (y7 x.num.toNat * y7 x.num.toNat) x.num.toNat && Nat.beq (y7 x.den * y7 x.den) x.den) = false := by
   cases h1 : Nat.beq (y7 x.num.toNat * y7 x.num.toNat) x.num.toNat with
   | false => rfl
   | true => rw [h1] at c; simpa using c
  rw [e]
  exact ⟨rfl, rfl, rfl⟩
 ·rw [Bool.or_eq_false_iff, Bool.not_eq_false', Bool.not_eq_false'] at c
  rw [c.1, c.2]
  have hd0 : y7 x.den ≠ 0 := fun e => by have := (Nat.beq_eq ▸ c.2 : y7 x.den * y7 x.den = x.den); rw [e] at this; omega
  refine ⟨⟨oi _ r1, oi _ r2, ?_⟩, rfl, ?_, rfl⟩
  ·rw [qi]
   exact fun e => hd0 (Rat.natCast_eq_zero_iff.1 e)
  ·show zt _ = zt _
   rw [Rat.mkRat_eq_div]; rfl
theorem Jp {G : List (Nat × Obj)} (hG : zo G) (p : List UInt8) (q : List UInt8) (hr : jv p q) : zU Tryz.prog G 74 [.str p, .str q] (.tup 3 (zw [.str (bif yF (zF p) (zF q) then zt (wj (zF p) (zF q)) else []), .b (yF (zF p) (zF q)), .i 0])) :=
 zW (T := Gn G) (an := .auto) mixed (Ob hG) (Eq.mp (by kernel_rfl) (kK G p q hr))
theorem qF {G : List (Nat × Obj)} (hG : zo G) : zp Tryz.prog G 74 uC := by
 intro xs ps r h hp
 unfold uC at h
 split at h
 ·skip
  rename_i p q
  cases h
  obtain ⟨q0, -⟩ := ZF hp
  exact weaken (ys := [.str p, .str q]) ⟨zT _, zT _, trivial⟩ (Jp hG p q q0)
 ·cases h
end Go.Te

namespace Go.Te
open Go Go.Sx Go.Proofs Go.Ar
set_option maxRecDepth 100000
set_option maxHeartbeats 4000000
def lH (s : zj) : Bool := zt (zF s) == s
theorem um (q : Rat) : lH (zt q) = true := by unfold lH; rw [zk]; exact beq_self_eq_true _
theorem nP {x : AV} (h : (ZM x && lH (AV.bytes x)) = true) : zE x (.str (zt (zF (AV.bytes x)))) := by
 rw [Bool.and_eq_true] at h
 unfold lH at h
 rw [eq_of_beq h.2]
 exact ZS (XT h.1)
instance : zr Tm := ⟨2, ⟨0, 0⟩, fun t => zw [.str (zt t.c), .str (zt t.q)], fun cs => ⟨zF (AV.bytes (cs 0)), zF (AV.bytes (cs 1))⟩, fun cs => (ZM (cs 0) && lH (AV.bytes (cs 0))) && (ZM (cs 1) && lH (AV.bytes (cs 1))), fun cs h j hj => by
 rw [Bool.and_eq_true] at h
 match j, hj with
 | 0, _ => exact nP h.1
 | 1, _ => exact nP h.2⟩
instance : YY Tm := ⟨fun c => by
 show (⟨zF (zt c.c), zF (zt c.q)⟩ : Tm) = c
 rw [zk, zk], fun c => by
 show ((true && lH (zt c.c)) && (true && lH (zt c.q))) = true
 rw [um, um]; rfl⟩
theorem YK (c q : Rat) : Z4 (AV.agg 2 (zw [AV.str (zt c), AV.str (zt q)])) = (⟨c, q⟩ : Tm) := Wr (⟨c, q⟩ : Tm)
theorem yi (c q : Rat) : yt Tm (AV.agg 2 (zw [AV.str (zt c), AV.str (zt q)])) = true := XI (⟨c, q⟩ : Tm)
def Ww (x : Rat) : Int := if (Lib.nDigits x.den : Int) > (Xx x.num : Int) then (Lib.nDigits x.den : Int) else (Xx x.num : Int)
theorem vG {x : Rat} {k : Nat} (hk : 0 < k) (h : bq k x) : Ww x ≤ k := by
 have a1 : Xx x.num ≤ k := xK hk h.num
 have a2 : Lib.nDigits x.den ≤ k := (ZX hk).2 h.den
 unfold Ww
 split <;> omega
noncomputable def Gj (G : List (Nat × Obj)) : Tb := (((W2 G).plus 95 (Yk fun s => .str (zR s))).body Tryz.prog [(86, .auto)]).plus 85 sP
theorem O1 {G : List (Nat × Obj)} (hG : zo G) : zz Tryz.prog (Gj G) := zz.plus (zz.body mixed (zz.plus zQ (zp.mono VZ)) _) (QQ hG)
def uH : List AV → Option (List zn × AV)
 | [.str a] => some ([.p (Ym 300 a)], .i (Ww (zF a)))
 | _ => none
theorem nY (G : List (Nat × Obj)) (a : List UInt8) (hr : Ym 300 a) :
 let q1 := (↑(lN (zR (Lib.itoa (cI (Rat.den (zF a)))))) : Int); let q2 := (lZ (zR (Lib.itoa (Rat.num (zF a))))); Zt [AV.str a] → Ym 300 a ∧ kI ∧ (if q1 > q2 then q1 else q2) = Ww (zF a) := by
 delta cI kI lZ lN
 dsimp only
 intro hb
 simp only [sS, dS]
 refine ⟨hr, ?_⟩
 rw [Sn, Sn]
 have e2 : Xx ((zF a).den : Int) = Lib.nDigits (zF a).den := by unfold Xx; rw [Int.natAbs_natCast]
 rw [e2]; rfl
theorem kO {G : List (Nat × Obj)} (hG : zo G) (a : List UInt8) (hr : Ym 300 a) : zU Tryz.prog G 47 [.str a] (.i (Ww (zF a))) :=
 zW (T := Gj G) (an := .auto) mixed (O1 hG) (Eq.mp (by kernel_rfl) (nY G a hr))
theorem pM {G : List (Nat × Obj)} (hG : zo G) : zp Tryz.prog G 47 uH := by
 intro xs ps r h hp
 unfold uH at h
 split at h
 ·skip
  rename_i a
  cases h
  obtain ⟨q0, -⟩ := ZF hp
  exact weaken (ys := [.str a]) ⟨zT _, trivial⟩ (kO hG a q0)
 ·cases h
structure Hh (x y : Tm) : Prop where
 ra : jv (zt y.q) (zt x.q)
 rel : yF y.q x.q = true
 cx : bq 100 x.c
 cy : bq 100 y.c
theorem LO {p q : Rat} (h1 : Xx (p / q).num ≤ 17) (h2 : Lib.nDigits (p / q).den ≤ 17) (h0 : 0 ≤ p / q) : bq 9 (wj p q) := by
 unfold wj I9
 generalize p / q = x at *
 have hx := Rat.num_nonneg.2 h0
 have b1 := w5 x.num
 have e2 : Xx (x.den : Int) = Lib.nDigits x.den := by unfold Xx; rw [Int.natAbs_natCast]
 have b2 := w5 (x.den : Int)
 rw [e2, Int.natAbs_natCast] at b2
 have k1 : x.num.natAbs < 10 ^ 17 := Nat.lt_of_lt_of_le b1 (Nat.pow_le_pow_right (by omega) h1)
 have k2 : x.den < 10 ^ 17 := Nat.lt_of_lt_of_le b2 (Nat.pow_le_pow_right (by omega) h2)
 have k3 : (10 : Nat) ^ 17 = 100000000000000000 := by decide
 have k4 : (10 : Nat) ^ 9 = 1000000000 := by decide
 rw [k3] at k1 k2
 obtain ⟨s1, s2⟩ := xM (n := x.num.toNat) (by omega)
 obtain ⟨t1, t2⟩ := xM (n := x.den) (by omega)
 have r1 : y7 x.num.toNat < 1000000000 := xR (by omega)
 have r2 : y7 x.den < 1000000000 := xR (by omega)
 have hd0 : y7 x.den ≠ 0 := fun e => by rw [e] at t2; have := x.den_pos; omega
 exact T4 (by omega) (by rw [Int.natAbs_natCast, k4]; exact r1) (by rw [k4]; exact r2)
noncomputable def GH (G : List (Nat × Obj)) : Tb := (((W2 G).plus 74 uC).plus 40 UU).plus 30 Mg
theorem ON {G : List (Nat × Obj)} (hG : zo G) : zz Tryz.prog (GH G) := zz.plus (zz.plus (zz.plus zQ (qF hG)) (rN hG)) (iy hG)
def si : List AV → Option (List zn × AV)
 | [x_x, x_y] => some ([.b (yt Tm x_x), .b (yt Tm x_y), .p (Hh (Z4 (α := Tm) x_x) (Z4 (α := Tm) x_y))], .tup 2 (zw [Yc (⟨(Z4 (α := Tm) x_x).c + (Z4 (α := Tm) x_y).c * wj (Z4 (α := Tm) x_y).q (Z4 (α := Tm) x_x).q, (Z4 (α := Tm) x_x).q⟩ : Tm), .i 0]))
 | _ => none
theorem ML (G : List (Nat × Obj)) (x : Tm) (y : Tm) (hr : Hh x y) :
 let q1 := (bif yF (zF (zt (Tm.q y))) (zF (zt (Tm.q x))) then zt (wj (zF (zt (Tm.q y))) (zF (zt (Tm.q x)))) else []); let q2 := (zt (zF (zt (Tm.c y)) * zF q1)); let q3 := (Tm.mk (Tm.c x + Tm.c y * wj (Tm.q y) (Tm.q x)) (Tm.q x)); Zt [AV.agg 2 (zr.enc x), AV.agg 2 (zr.enc y)] → jv (zt (Tm.q y)) (zt (Tm.q x)) ∧ O9 140 (zt (Tm.c y)) q1 ∧ O9 140 (zt (Tm.c x)) q2 ∧ j2 ∧ (True ∧ 2 = 2 ∧ zt (zF (zt (Tm.c x)) + zF q2) = zt (Tm.c q3) ∧ zt (Tm.q x) = zt (Tm.q q3)) ∧ kI ∧ iZ = iZ := by
 delta kI j2 iZ
 dsimp only
 intro hb
 simp only [sS, dS, zk]
 have hp := hr.ra.fp
 have hx := hr.ra.fq.pos
 have h1 := hr.ra.num
 have h2 := hr.ra.den
 have h3 := hr.ra.pos
 have h4 := hp.pos
 rw [zk] at h3 h4
 rw [zk, zk] at h1 h2
 have hX : 0 ≤ y.q / x.q := by
  rw [Rat.div_def]
  exact Rat.mul_nonneg h4 (Rat.le_of_lt (Rat.inv_pos.2 h3))
 have hv := LO h1 h2 hX
 have hm := Qz hr.cy hv
 rw [hr.rel]
 simp only [cond_true, zk]
 exact ⟨hr.ra, ⟨(ZI (by decide) (by decide)).2 (hr.cy.mono (by decide)), (ZI (by decide) (by decide)).2 (hv.mono (by decide))⟩, ⟨(ZI (by decide) (by decide)).2 (hr.cx.mono (by decide)), (ZI (by decide) (by decide)).2 (hm.mono (by decide))⟩, rfl, trivial⟩
theorem kE {G : List (Nat × Obj)} (hG : zo G) (x : Tm) (y : Tm) (hr : Hh x y) : zU Tryz.prog G 84 [Yc x, Yc y] (.tup 2 (zw [Yc (⟨x.c + y.c * wj y.q x.q, x.q⟩ : Tm), .i 0])) :=
 zW (T := GH G) (an := .auto) mixed (ON hG) (Eq.mp (by kernel_rfl) (ML G x y hr))
theorem Kr {G : List (Nat × Obj)} (hG : zo G) : zp Tryz.prog G 84 si := by
 intro xs ps r h hp
 unfold si at h
 split at h
 ·skip
  rename_i x_x x_y
  cases h
  obtain ⟨q0, q1, q2, -⟩ := ZF hp
  exact weaken (ys := [Yc (Z4 (α := Tm) x_x), Yc (Z4 (α := Tm) x_y)]) ⟨ZT q0, ZT q1, trivial⟩ (kE hG (Z4 (α := Tm) x_x) (Z4 (α := Tm) x_y) q2)
 ·cases h
end Go.Te

namespace Go.Proofs
open Go.Shelf
def Tryz.pdqCut_ren : Go.Shelf.Ren := ⟨fun | 14 => 87 | 20 => 129 | 21 => 130 | 22 => 131 | 23 => 132 | 24 => 133 | 25 => 134 | 26 => 135 | 27 => 136 | 46 => 169 | 47 => 170 | 48 => 171 | 49 => 172 | 50 => 173 | 15 => 88 | 57 => 193 | 28 => 137 | 29 => 138 | n => n, fun | 24 => 49 | 22 => 25 | 3 => 3 | 25 => 82 | 4 => 4 | 0 => 0 | 46 => 178 | 45 => 177 | 50 => 166 | 66 => 221 | 39 => 127 | 55 => 160 | 70 => 225 | 76 => 241 | 77 => 234 | 53 => 184 | 5 => 5 | 9 => 9 | n => n, fun | n => n⟩
theorem Tryz.pdqCut : Go.Proofs.SlLaysF0.n14 Tryz.prog Tryz.pdqCut_ren := {
 mixed := by kernel_rfl
 f14 := ⟨Tryz.f87.name, by decide, Tryz.func87.trans (congrArg some (by kernel_rfl))⟩
 f15 := Tryz.func88.trans (congrArg some (by kernel_rfl))
 f20 := ⟨Tryz.f129.name, by decide, Tryz.func129.trans (congrArg some (by kernel_rfl))⟩
 f21 := ⟨Tryz.f130.name, by decide, Tryz.func130.trans (congrArg some (by kernel_rfl))⟩
 f22 := ⟨Tryz.f131.name, by decide, Tryz.func131.trans (congrArg some (by kernel_rfl))⟩
 f23 := ⟨Tryz.f132.name, by decide, Tryz.func132.trans (congrArg some (by kernel_rfl))⟩
 f24 := ⟨Tryz.f133.name, by decide, Tryz.func133.trans (congrArg some (by kernel_rfl))⟩
 f25 := ⟨Tryz.f134.name, by decide, Tryz.func134.trans (congrArg some (by kernel_rfl))⟩
 f26 := ⟨Tryz.f135.name, by decide, Tryz.func135.trans (congrArg some (by kernel_rfl))⟩
 f27 := ⟨Tryz.f136.name, by decide, Tryz.func136.trans (congrArg some (by kernel_rfl))⟩
 f28 := Tryz.func137.trans (congrArg some (by kernel_rfl))
 f29 := Tryz.func138.trans (congrArg some (by kernel_rfl))
 f46 := ⟨Tryz.f169.name, by decide, Tryz.func169.trans (congrArg some (by kernel_rfl))⟩
 f47 := Tryz.func170.trans (congrArg some (by kernel_rfl))
 f48 := Tryz.func171.trans (congrArg some (by kernel_rfl))
 f49 := ⟨Tryz.f172.name, by decide, Tryz.func172.trans (congrArg some (by kernel_rfl))⟩
 f50 := ⟨Tryz.f173.name, by decide, Tryz.func173.trans (congrArg some (by kernel_rfl))⟩
 f57 := ⟨Tryz.f193.name, by decide, Tryz.func193.trans (congrArg some (by kernel_rfl))⟩
 t0 := Tryz.underlying0
 a0 := Tryz.isAgg0
 z0 := Tryz.sizeOf0
 v0 := Tryz.zeroValue0
 t3 := Tryz.underlying3
 a3 := Tryz.isAgg3
 z3 := Tryz.sizeOf3
 v3 := Tryz.zeroValue3
 t4 := Tryz.underlying4
 a4 := Tryz.isAgg4
 z4 := Tryz.sizeOf4
 v4 := Tryz.zeroValue4
 t5 := Tryz.underlying5
 a5 := Tryz.isAgg5
 z5 := Tryz.sizeOf5
 v5 := Tryz.zeroValue5
 t9 := Tryz.underlying9
 a9 := Tryz.isAgg9
 z9 := Tryz.sizeOf9
 v9 := Tryz.zeroValue9
 t22 := Tryz.underlying25
 a22 := Tryz.isAgg25
 z22 := Tryz.sizeOf25
 v22 := Tryz.zeroValue25
 t25 := Tryz.underlying82
 a25 := Tryz.isAgg82
 z25 := Tryz.sizeOf82
 v25 := Tryz.zeroValue82
 t39 := Tryz.underlying127
 a39 := Tryz.isAgg127
 z39 := Tryz.sizeOf127
 v39 := Tryz.zeroValue127
 t45 := Tryz.underlying177
 a45 := Tryz.isAgg177
 z45 := Tryz.sizeOf177
 v45 := Tryz.zeroValue177
 t46 := Tryz.underlying178
 a46 := Tryz.isAgg178
 z46 := Tryz.sizeOf178
 v46 := Tryz.zeroValue178
 t50 := Tryz.underlying166
 a50 := Tryz.isAgg166
 z50 := Tryz.sizeOf166
 v50 := Tryz.zeroValue166
 t53 := Tryz.underlying184
 a53 := Tryz.isAgg184
 z53 := Tryz.sizeOf184
 v53 := Tryz.zeroValue184
 t55 := Tryz.underlying160
 a55 := Tryz.isAgg160
 z55 := Tryz.sizeOf160
 v55 := Tryz.zeroValue160
 t66 := Tryz.underlying221
 a66 := Tryz.isAgg221
 z66 := Tryz.sizeOf221
 v66 := Tryz.zeroValue221
 t70 := Tryz.underlying225
 a70 := Tryz.isAgg225
 z70 := Tryz.sizeOf225
 v70 := Tryz.zeroValue225
 t76 := Tryz.underlying241
 a76 := Tryz.isAgg241
 z76 := Tryz.sizeOf241
 v76 := Tryz.zeroValue241
 t77 := Tryz.underlying234
 a77 := Tryz.isAgg234
 z77 := Tryz.sizeOf234
 v77 := Tryz.zeroValue234 }
end Go.Proofs
namespace Go.Te
open Go Go.Sx Go.Proofs Go.RowKit Go.Shelf Go.Sort
set_option maxHeartbeats 4000000
set_option maxRecDepth 100000
theorem PQ (n : Nat) (hn : n < 4611686018427387904) (w : World) : Calls Tryz.prog 88 #[.int .u64 (n : Int)] w fun e w' => e = .returned (.int .i64 (Lib.bitLen n : Nat)) ∧ w' = w := by
 have h := Tryz.bits_Len (n : Int) w (by omega) (by omega)
 rwa [Int.toNat_natCast] at h
theorem Np : rJ Tryz.prog 48 2 := by
 intro enc hk h1 cf hO g cb blk off cap d w eg hcmp hH hblk hsz
 have e14 : ∀ args w, (callFunc 87 args).run Tryz.prog w = .ok (.enter 87 args) w := enters_of Tryz.func87 (by kernel_rfl) rfl
 have e15 : ∀ args w, (callFunc 88 args).run Tryz.prog w = .ok (.enter 88 args) w := enters_of Tryz.func88 (by kernel_rfl) rfl
 have hlim : Lib.bitLen d.size < 4611686018427387904 := Nat.lt_of_le_of_lt (Lib.bitLen_le d.size 62 (by omega) (by omega)) (by omega)
 have hp : Calls Tryz.prog 87 _ _ _ := AnyQ.pdqsortCmpFunc_all Tryz.pdqCut 2 Tryz.isAgg49 Tryz.sizeOf49 enc cf g cb hO blk off cap d w eg hcmp ⟨hk, h1, hH, hblk⟩ (d.size + 1) 0 d.size (Lib.bitLen d.size) d w (by omega) rfl (SWK.start hH) (Nat.zero_le _) (Nat.le_refl _) hsz hlim (Or.inl rfl)
 have hl := PQ d.size hsz w
 have wr : IntKind.u64.wrap (d.size : Int) = d.size := by simp [IntKind.wrap, IntKind.bits, IntKind.signed]; omega
 have h := pdq_sorts (ltOf cf) hO d 0 d.size (Lib.bitLen d.size) true true (Nat.zero_le _) (Nat.le_refl _) (Or.inl rfl)
 have mixed : Tryz.prog.follows .mixedOrders = true := by kernel_rfl
 clear hH hcmp hk h1
 go_enter Tryz.func48, Tryz.ntmps48
 go_wp2_with (first | (go_at_fn 88; refine hl.mono ?_; rintro e w' ⟨rfl, rfl⟩) | (go_at_fn 87; refine hp.mono ?_; rintro e w' ⟨rfl, n, os, rfl⟩))
 go_end0
 exact ⟨rfl, _, n, os, h.1, h.2, rfl⟩
theorem NU : qy Tryz.prog 48 := by
 intro p cap fv w
 have e14 : ∀ args w, (callFunc 87 args).run Tryz.prog w = .ok (.enter 87 args) w := enters_of Tryz.func87 (by kernel_rfl) rfl
 have e15 : ∀ args w, (callFunc 88 args).run Tryz.prog w = .ok (.enter 88 args) w := enters_of Tryz.func88 (by kernel_rfl) rfl
 have hp : ∀ Qb W, Calls Tryz.prog 87 #[.slice p 0 cap, .int .i64 0, .int .i64 0, .int .i64 Qb, fv] W fun e w' => e = .returned (.tuple #[]) ∧ w' = W := fun Qb W => AnyF.pdqsortCmpFunc_none Tryz.pdqCut p cap Qb fv W
 have hl : ∀ W, Calls Tryz.prog 88 #[.int .u64 0] W fun e w' => e = .returned (.int .i64 (Lib.bitLen 0 : Nat)) ∧ w' = W := fun W => PQ 0 (by omega) W
 have mixed : Tryz.prog.follows .mixedOrders = true := by kernel_rfl
 go_enter Tryz.func48, Tryz.ntmps48
 go_wp2_with (first | (go_at_fn 88; refine (hl _).mono ?_; rintro e w' ⟨rfl, rfl⟩) | (go_at_fn 87; refine (hp _ _).mono ?_; rintro e w' ⟨rfl, rfl⟩))
 go_end0
 exact ⟨rfl, rfl⟩
end Go.Te

namespace Go.Te
open Go Go.Sx Go.Proofs Go.Ar Go.RowKit Go.Shelf
set_option maxRecDepth 100000
set_option maxHeartbeats 4000000
abbrev RM : Nat := 99999999
theorem lD {a : zj} (h : zh a = 0) (hn : (zM a).natAbs ≤ 99999999) (hd : zP a ≤ 99999999) : Zz a = true := by
 obtain ⟨_, o2, _, _, o5, _, _⟩ := Yf a
 have hf := (Zq.1 h).1
 have hp := yn hf
 have e : a = YM (zM a) (zP a) := (wv hf).symm
 obtain ⟨s1, s2, s3, s4, s5⟩ := Xo (zM a) hp
 rw [← e] at s4 s5
 have a1 : Xx (zM a) ≤ 8 := xK (by decide) (Nat.lt_of_le_of_lt hn (by decide))
 have a2 : Lib.nDigits (zP a) ≤ 8 := (ZX (by decide)).2 (Nat.lt_of_le_of_lt hd (by decide))
 unfold Zz
 rw [h, Bool.and_eq_true, Bool.and_eq_true, ZY, ZY]
 have q1 : (zO (zR a)).length ≤ 8 := by rw [← o5, s4]; exact a1
 have q2 : (zb (zR a)).length ≤ 8 := by rw [← o2, s5]; split <;> omega
 exact ⟨⟨rfl, by omega⟩, by omega⟩
theorem iE {a : zj} (h : Zz a = true) : bq 9 (zF a) := by
 obtain ⟨h1, h2, h3⟩ := yI h
 have k : (10 : Nat) ^ 9 = 1000000000 := by decide
 exact ⟨by rw [(ZA h1).1, k]; omega, by rw [(ZA h1).2, k]; omega⟩
def S4 : List AV → Option (List zn × AV)
 | [.str a] => some ([.p (Zz a = true)], .tup 2 (zw [.agg 2 (zw [.i (zM a), .i (zP a : Int)]), .b true]))
 | _ => none
theorem Ls : zp Tryz.prog [] 55 S4 := by
 intro xs ps r h hp
 unfold S4 at h
 split at h
 ·rename_i a
  cases h
  have q : Zz a = true := hp _ List.mem_cons_self
  have := NP a (by have := (yI q).1; exact Yt (k := 9) ⟨this, iE q⟩ (by decide) (by decide))
  rw [q] at this
  exact this
 ·cases h
def Qy : List AV → Option (List zn × AV)
 | [.str a, .str b] => some ([.p (Zz a = true), .p (Zz b = true)], .tup 2 (zw [.i (xS (zM a * (zP b : Int)) (zM b * (zP a : Int))), .i 0]))
 | _ => none
theorem kM (a : List UInt8) (b : List UInt8) (ha : Zz a = true) (hc : Zz b = true) :
 Zt [AV.str a, AV.str b] → Zz a = true ∧ Zz b = true ∧ bF (dK (zM a * (cI (zP b)))) (bF (dK (zM b * (cI (zP a)))) (j2 ∧ (True ∧ kI ∧ xS (zM a * (cI (zP b))) (zM b * (cI (zP a))) = xS (zM a * (cI (zP b))) (zM b * (cI (zP a)))) ∧ kI ∧ iZ = iZ)) := by
 delta bF dK cI kI j2 iZ
 intro hb
 simp only [sS, YK, yi, zk, dS]
 obtain ⟨a1, a2, a3⟩ := yI ha
 obtain ⟨b1, b2, b3⟩ := yI hc
 have m1 := YS (a := zM a) (b := (zP b : Int)) ⟨by omega, by omega⟩ ⟨by omega, by omega⟩
 have m2 := YS (a := zM b) (b := (zP a : Int)) ⟨by omega, by omega⟩ ⟨by omega, by omega⟩
 exact ⟨ha, hc, ⟨by omega, by omega⟩, ⟨by omega, by omega⟩, rfl⟩
theorem JM (a : List UInt8) (b : List UInt8) (ha : Zz a = true) (hc : Zz b = true) : zU Tryz.prog [] 29 [.str a, .str b] (.tup 2 (zw [.i (xS (zM a * (zP b : Int)) (zM b * (zP a : Int))), .i 0])) :=
 zW (T := (T0.plus 55 S4).plus 56 Uo) (an := .auto) mixed (zz.plus (zz.plus zQ Ls) pP) (Eq.mp (by kernel_rfl) (kM a b ha hc))
theorem Jo : zp Tryz.prog [] 29 Qy := by
 intro xs ps r h hp
 unfold Qy at h
 split at h
 ·skip
  rename_i a b
  cases h
  obtain ⟨q0, q1, -⟩ := ZF hp
  exact weaken (ys := [.str a, .str b]) ⟨zT _, zT _, trivial⟩ (JM a b q0 q1)
 ·cases h
theorem pD {q : Rat} (h1 : q.num.natAbs ≤ 99999999) (h2 : q.den ≤ 99999999) : Zz (zt q) = true := by
 obtain ⟨e1, e2⟩ := wx q
 have k : (10 : Nat) ^ 9 = 1000000000 := by decide
 exact lD (Pr (k := 9) (by decide) ⟨by rw [k]; omega, by rw [k]; omega⟩ (by decide)) (by rw [e1]; exact h1) (by rw [e2]; exact h2)
def Nx (r : Nat → AV) : Bool := zr.ok (α := Tm) r && (Nat.ble (zr.dec (α := Tm) r).q.num.natAbs RM && Nat.ble (zr.dec (α := Tm) r).q.den RM)
def Tg (r s : Nat → AV) : Int := W3 (zr.dec (α := Tm) r).q (zr.dec (α := Tm) s).q
theorem Km (x : Tm) (y : Tm) (h1 : Zz (zt x.q) = true) (h2 : Zz (zt y.q) = true) :
 Zt [AV.agg 2 (zr.enc x), AV.agg 2 (zr.enc y)] → Zz (zt (Tm.q x)) = true ∧ Zz (zt (Tm.q y)) = true ∧ kI ∧ xS (zM (zt (Tm.q x)) * (cI (zP (zt (Tm.q y))))) (zM (zt (Tm.q y)) * (cI (zP (zt (Tm.q x))))) = W3 (Tm.q x) (Tm.q y) := by
 delta cI kI
 intro hb
 simp only [sS, YK, yi, zk, dS]
 refine ⟨h1, h2, ?_⟩
 have := M1 (yI h1).1 (yI h2).1
 rw [zk, zk] at this
 exact this
theorem JU (x : Tm) (y : Tm) (h1 : Zz (zt x.q) = true) (h2 : Zz (zt y.q) = true) : zU Tryz.prog [] 49 [Yc x, Yc y] (.i (W3 x.q y.q)) :=
 zW (T := T0.plus 29 Qy) (an := .auto) mixed (zz.plus zQ Jo) (Eq.mp (by kernel_rfl) (Km x y h1 h2))
theorem Nl : KV Tryz.prog 2 49 Nx Tg where
 pos := by decide
 ent := enters_of Tryz.func49 (by kernel_rfl) rfl
 call := fun r s hr hs => by
  unfold Nx at hr hs
  rw [Bool.and_eq_true, Bool.and_eq_true] at hr hs
  have ar : yt Tm (.agg 2 r) = true := hr.1
  have a2 : yt Tm (.agg 2 s) = true := hs.1
  exact weaken (ys := [_, _]) ⟨ZT ar, ZT a2, trivial⟩ (JU _ _ (pD (Nat.le_of_ble_eq_true hr.2.1) (Nat.le_of_ble_eq_true hr.2.2)) (pD (Nat.le_of_ble_eq_true hs.2.1) (Nat.le_of_ble_eq_true hs.2.2)))
 swo := fun els f => by
  have key : ∀ a b : Rat, W3 a b < 0 ↔ a < b := fun a b => by
   unfold W3
   split
   ·rename_i h; exact ⟨fun _ => h, fun _ => by decide⟩
   ·rename_i h
    split
    ·exact ⟨fun h => absurd h (by decide), fun e => absurd e h⟩
    ·exact ⟨fun h => absurd h (by decide), fun e => absurd e h⟩
  refine ⟨fun x => ?_, fun x y z h1 h2 => ?_, fun x y z h1 h2 => ?_⟩ <;>
   simp only [ltOf, Tg, decide_eq_true_eq, decide_eq_false_iff_not, key, Rat.not_lt] at *
  ·exact Rat.le_refl
  ·grind
  ·grind
def jS := Su 2 49 Nx Tg
theorem OQ (G : List (Nat × Obj)) : uT Tryz.prog G 48 jS :=
 P7 (enters_of Tryz.func48 (by kernel_rfl) rfl) NU Np Nl G
end Go.Te

namespace Go.Te
open Go Go.Sx Go.Proofs Go.Ar Go.RowKit
set_option maxRecDepth 100000
set_option maxHeartbeats 4000000
structure vU (l : List Tm) : Prop where
 len : l.length ≤ 256
 cs : ∀ t ∈ l, bq 60 t.c
 qs : ∀ t ∈ l, t.q ≠ 0 → li (zt t.q)
 root : inT RM l
 cls : ∀ k, ∀ x ∈ XC (Xq (l.take k)), bq 60 x.c
 out : (Zg l).length ≤ 16
def Mf (t : TypeId) (l : List Tm) : OB := .arr t 2 l.length fun i j => zr.enc (l.getD i zr.dflt) j
def I2 : OB → List Tm
 | .arr _ _ n els => (List.range n).map fun i => zr.dec (els i)
 | _ => []
def Uf : AV → Nat
 | .np k _ => k
 | _ => 0
def HQ : AV → Nat
 | .fn _ _ first _ _ => Uf (first 0)
 | _ => 0
noncomputable def HF (G : List (Nat × Obj)) : Tb := Tb.own1 ((((((((W2 G).plus 43 Se).plus 44 (Yk fun s => .b (zL s))).plus 83 uM).plus 47 uH).plus 40 UU).plus 74 uC).plus 84 si |>.plus 29 qm) 48 jS
theorem Qi {G : List (Nat × Obj)} (hG : zo G) : zz Tryz.prog (HF G) := zz.own1 (zz.plus (zz.plus (zz.plus (zz.plus (zz.plus (zz.plus (zz.plus (zz.plus zQ (Qw hG)) (zp.mono SI)) (pL hG)) (pM hG)) (rN hG)) (qF hG)) (Kr hG)) (m7 hG)) (OQ G)
def cellAt (B : OB) (i : Nat) : AV :=
 match B with
 | .box _ _ cs => cs i
 | _ => .junk
def R6 (x y : AV) : Tm := ⟨zF (AV.bytes x), zF (AV.bytes y)⟩
def Yn (x t : Tm) : Tm × Tm := if t.q < x.q then (t, x) else (x, t)
theorem yo (a b : zj) : R6 (.str a) (.str b) = ⟨zF a, zF b⟩ := rfl
theorem Yx (t : TypeId) (l : List Tm) : I2 (OB.arr t 2 l.length fun i j => zr.enc (l.getD i zr.dflt) j) = l := by
 have e : ((List.range l.length).map fun i => zr.dec (α := Tm) (fun j => zr.enc (l.getD i zr.dflt) j)) = l := by
  apply List.ext_getElem
  ·simp
  ·intro i h1 h2
   rw [List.getElem_map, List.getElem_range, List.getD_eq_getElem?_getD, List.getElem?_eq_getElem h2]
   exact YY.dec _
 exact e
def LE : yS := .two .auto (.two .auto (.two (.one (.two .auto (.two .auto (.two .auto (.two .auto (.two .auto
 (.join (Tm × Tm) (fun σ _ => [(0, σ.tm 0), (5, σ.tm 5), (6, σ.tm 6), (10, σ.tm 10)]) (fun σ z => [(Uf (σ.tm 6), .box 79 2 (zr.enc z.1)), (Uf (σ.tm 10), .box 79 2 (zr.enc z.2))]) 0
  (fun σ z => z = Yn (R6 (cellAt (σ.bl (Uf (σ.tm 6))) 0) (cellAt (σ.bl (Uf (σ.tm 6))) 1)) (R6 (cellAt (σ.bl (Uf (σ.tm 10))) 0) (cellAt (σ.bl (Uf (σ.tm 10))) 1))) .auto .auto))))))) .auto))
def kN  : yS :=
 .two .auto (.two (.two .auto (.one (.loop Nat (fun σ z => [(0, σ.tm 0), (3, σ.tm 3), (17, σ.tm 17), (18, σ.tm 18), (19, .i (z : Int))]) (fun σ z => []) 0 (fun σ z => z ≤ (I2 (σ.bl (YN (σ.tm 17)))).length ∧ ∀ j, j < z → yF (Z4 (α := Tm) (σ.tm 1)).q ((I2 (σ.bl (YN (σ.tm 17)))).getD j zr.dflt).q = false) (fun σ z => (I2 (σ.bl (YN (σ.tm 17)))).length - z) LE))) .auto)
def Zv (l : List Tm) (k : Nat) : List Tm := XC (Xq (l.take k))
def L3 : yS := .two .auto (.two .auto (.two (.one (.two .auto (.two .auto (.two .auto
 (.join (Rat × Rat) (fun σ z => [(1, σ.tm 1), (6, σ.tm 6), (11, σ.tm 11), (12, σ.tm 12), (13, σ.tm 13), (7, .str (zt z.1)), (8, .str (zt z.2)), (9, .i 0)]) (fun _ _ => []) 0
  (fun σ z => z.1 = nK (R6 (cellAt (σ.bl (Uf (σ.tm 6))) 0) (cellAt (σ.bl (Uf (σ.tm 6))) 1)).q ∧ z.2 = nL (R6 (cellAt (σ.bl (Uf (σ.tm 6))) 0) (cellAt (σ.bl (Uf (σ.tm 6))) 1)).q) .auto .auto))))) .auto))
def LS (l : List Tm) : yS :=
 .two .auto (.two (.two .auto (.one (.loop Nat (fun σ z => [(1, σ.tm 1), (11, σ.tm 11), (12, σ.tm 12), (13, .i (z : Int))]) (fun σ z => [(HQ (σ.tm 1), .box 75 1 fun _ => .ns σ.nb 0 (Zv l z).length), (σ.nb, Mf 79 (Zv l z))]) 1 (fun σ z => z ≤ l.length) (fun σ z => l.length - z) L3))) .auto)
def yC (l : List Tm) (k : Nat) : List Tm := ((Zv l l.length).take k).filter fun t => decide (t.c ≠ 0)
def iw (l : List Tm) : yS :=
 .two .auto (.two .auto (.two (.two .auto (.one (.loop Nat (fun σ z => [(0, σ.tm 0), (16, σ.tm 16), (17, σ.tm 17), (18, .i (z : Int))]) (fun σ z => []) 0 (fun σ z => z ≤ l.length) (fun σ z => l.length - z) .auto))) (.two .auto (.two .auto (.two .auto (.two (.two .auto (.one (.loop Nat (fun σ z => [(45, σ.tm 45), (46, σ.tm 46), (10, .ns σ.nb 0 (yC l z).length), (47, .i (z : Int))]) (fun σ z => [(σ.nb, Mf 49 (yC l z))]) 1 (fun σ z => z ≤ (Zv l l.length).length) (fun σ z => (Zv l l.length).length - z) .auto))) .auto))))))
theorem XQ (x : Tm) : Z4 (AV.agg 2 fun i => zr.enc x i) = x := Wr x
theorem YC (x : Tm) : yt Tm (AV.agg 2 fun i => zr.enc x i) = true := XI x
theorem uK (a b : Rat) : W3 a b < 0 ↔ a < b := by
 unfold W3
 split
 ·rename_i h; exact ⟨fun _ => h, fun _ => by decide⟩
 ·rename_i h
  split
  ·exact ⟨fun h => absurd h (by decide), fun e => absurd e h⟩
  ·exact ⟨fun h => absurd h (by decide), fun e => absurd e h⟩
theorem Rm (l : List Tm) (x : Tm) : Xq (l ++ [x]) = Xq l ++ if x.c = 0 ∨ x.q = 0 then [] else [rR x] := by
 unfold Xq
 rw [List.filter_append, List.map_append]
 congr 1
 by_cases h1 : x.c = 0
 ·rw [if_pos (.inl h1)]; simp [h1]
 ·by_cases h2 : x.q = 0
  ·rw [if_pos (.inr h2)]; simp [h2]
  ·rw [if_neg (by simp [h1, h2])]; simp [h1, h2]
theorem UW {l : List Tm} {z : Nat} (h : z < l.length) : l.take (z + 1) = l.take z ++ [l.getD z zr.dflt] := oZ (d := zr.dflt) h
theorem om {l : List Tm} {z : Nat} (h : z < l.length) (h0 : (l.getD z zr.dflt).c = 0 ∨ (l.getD z zr.dflt).q = 0) : Zv l (z + 1) = Zv l z := by
 unfold Zv
 rw [UW h, Rm, if_pos h0, List.append_nil]
theorem Ox {l : List Tm} {z : Nat} (h : z < l.length) (h0 : ¬((l.getD z zr.dflt).c = 0 ∨ (l.getD z zr.dflt).q = 0)) : Zv l (z + 1) = Wb (Zv l z) (rR (l.getD z zr.dflt)) := by
 unfold Zv
 rw [UW h, Rm, if_neg h0, TI]
theorem pn (t : Tm) : rR t = ⟨t.c * nK t.q, nL t.q⟩ := rfl
theorem Nc : nK 1 = 1 ∧ nL 1 = 1 := by decide +kernel
theorem HT {q : Rat} (h : li (zt q)) : 0 < q ∧ mQ q < 10 ^ 17 ∧ bq 17 (nK q) := by
 have hp := h.pos
 have hl := h.len
 rw [zk] at hp hl
 have hn : 0 < q.num := by
  have := Rat.num_nonneg.2 (Rat.le_of_lt hp)
  have h2 : q.num ≠ 0 := fun e => (Rat.ne_of_gt hp) (Rat.num_eq_zero.1 e)
  omega
 have b1 := w5 q.num
 have b2 := w5 (q.den : Int)
 have e2 : Xx (q.den : Int) = Lib.nDigits q.den := by unfold Xx; rw [Int.natAbs_natCast]
 rw [e2, Int.natAbs_natCast] at b2
 have b3 : q.num.natAbs * q.den < 10 ^ 17 := by
  refine Nat.lt_of_lt_of_le (Nat.mul_lt_mul'' b1 b2) ?_
  rw [← Nat.pow_add]
  exact Nat.pow_le_pow_right (by omega) hl
 have em : mQ q = q.num.natAbs * q.den := by unfold mQ; rw [show q.num.toNat = q.num.natAbs by omega]
 rw [← em] at b3
 have hd : q.den < 10 ^ 17 := Nat.lt_of_lt_of_le b2 (Nat.pow_le_pow_right (by omega) (by omega))
 exact ⟨hp, b3, T4 q.den_pos (by rw [Int.natAbs_natCast]; exact Nat.lt_of_le_of_lt (qC (qf hp)).2.2 b3) hd⟩
theorem wN {R : Nat} {x : Tm} (h : Zw R x) (hR : R < 100000000) : bq 8 x.q ∧ 0 < x.q ∧ x.q.den = 1 ∧ x.q.num.natAbs ≤ R := by
 obtain ⟨r, e, h0, h1⟩ := h
 have k : (10 : Nat) ^ 8 = 100000000 := by decide
 rw [e]
 refine ⟨⟨by rw [Rat.num_natCast, Int.natAbs_natCast, k]; omega, by rw [Rat.den_natCast, k]; omega⟩, ?_, Rat.den_natCast r, by rw [Rat.num_natCast, Int.natAbs_natCast]; exact h1⟩
 exact Rat.lt_of_le_of_ne Rat.natCast_nonneg fun e => by have := Rat.natCast_eq_zero_iff.1 e.symm; omega
theorem pT {x y : Tm} (hx : Zw RM x) (hy : Zw RM y) : jv (zt x.q) (zt y.q) := by
 obtain ⟨b1, p1, d1, n1⟩ := wN hx (by decide)
 obtain ⟨b2, p2, d2, n2⟩ := wN hy (by decide)
 have key : bq 8 (x.q / y.q) := by
  obtain ⟨r, e, h0, h1⟩ := hx
  obtain ⟨s, e2, g0, g1⟩ := hy
  have k : (10 : Nat) ^ 8 = 100000000 := by decide
  have : x.q / y.q = mkRat (r : Int) s := by rw [e, e2, Rat.mkRat_eq_div]; rfl
  rw [this]
  exact T4 g0 (by rw [Int.natAbs_natCast, k]; exact Nat.lt_of_le_of_lt h1 (by decide)) (by rw [k]; exact Nat.lt_of_le_of_lt g1 (by decide))
 refine ⟨⟨(ZI (by decide) (by decide)).2 (b1.mono (by decide)), ?_⟩, ⟨(ZI (by decide) (by decide)).2 (b2.mono (by decide)), ?_⟩, ?_, ?_, ?_⟩
 ·rw [zk]; exact Rat.le_of_lt p1
 ·rw [zk]; exact Rat.le_of_lt p2
 ·rw [zk]; exact p2
 ·rw [zk, zk]; exact Nat.le_trans (xK (k := 8) (by decide) key.num) (by decide)
 ·rw [zk, zk]; exact Nat.le_trans ((ZX (k := 8) (by decide)).2 key.den) (by decide)
theorem Mw {x y : Tm} (hx : Zw RM x) (hy : Zw RM y) (h : yF x.q y.q = true) : yF y.q x.q = true := by
 cases hb : yF y.q x.q with
 | true => rfl
 | false =>
  have := (uI hx hy (by decide)).2 ((uI hy hx (by decide)).1 hb).symm
  rw [h] at this
  cases this
theorem LJ (x t : Tm) : XD x t = ⟨(Yn x t).1.c + (Yn x t).2.c * wj (Yn x t).2.q (Yn x t).1.q, (Yn x t).1.q⟩ := by
 unfold XD Yn
 split <;> rfl
theorem OJ {l : List Tm} {z : Nat} (h : z < (Zv l l.length).length) : yC l (z + 1) = yC l z ++ if ((Zv l l.length).getD z zr.dflt).c = 0 then [] else [(Zv l l.length).getD z zr.dflt] := by
 unfold yC
 rw [UW h, List.filter_append]
 congr 1
 generalize (Zv l l.length).getD z zr.dflt = x
 by_cases h1 : x.c = 0
 ·rw [if_pos h1]; simp [h1]
 ·rw [if_neg h1]; simp [h1]
theorem RA (l : List Tm) : Zv l l.length = XC (Xq l) := by unfold Zv; rw [List.take_length]
theorem NG (l : List Tm) : yC l (Zv l l.length).length = xn l := by
 unfold yC xn
 rw [List.take_length, RA]
theorem yG {l : List Tm} {i : Nat} (h : i < l.length) : l.getD i zr.dflt ∈ l := by
 rw [List.getD_eq_getElem?_getD, List.getElem?_eq_getElem h]
 exact List.getElem_mem h
theorem Pk (l : List Tm) (x : Tm) (i j : Nat) (hi : i < l.length + 1) : zE (if i < l.length then zr.enc (l.getD i zr.dflt) j else zw [AV.str (zt x.c), AV.str (zt x.q)] j) (zr.enc ((l ++ [x]).getD i zr.dflt) j) := by
 by_cases h : i < l.length
 ·rw [if_pos h, show (l ++ [x]).getD i zr.dflt = l.getD i zr.dflt by simp [List.getD_eq_getElem?_getD, List.getElem?_append_left h]]
  exact zT _
 ·obtain rfl : i = l.length := by omega
  rw [if_neg h, show (l ++ [x]).getD l.length zr.dflt = x by simp [List.getD_eq_getElem?_getD]]
  exact zT _
theorem gq (l : List Tm) (k : Nat) (x : Tm) (hk : k < l.length) (i j : Nat) (hj : j < 2) : zE (if i = k ∧ j < 2 then (if j < 2 then zr.enc x j else Z0 (Value.agg #[Value.string ⟨#[]⟩, Value.string ⟨#[]⟩]) j) else zr.enc (l.getD i zr.dflt) j) (zr.enc ((l.set k x).getD i zr.dflt) j) := by
 by_cases e : i = k
 ·subst e
  rw [if_pos ⟨rfl, hj⟩, if_pos hj, show (l.set i x).getD i zr.dflt = x by simp [List.getD_eq_getElem?_getD, hk]]
  exact zT _
 ·rw [if_neg fun h => e h.1, show (l.set k x).getD i zr.dflt = l.getD i zr.dflt by simp [List.getD_eq_getElem?_getD, List.getElem?_set_ne (Ne.symm e)]]
  exact zT _
noncomputable def Gs (G : List (Nat × Obj)) (l : List Tm) : Tb := ((HF G).body Tryz.prog [(46, kN)]).body Tryz.prog [(45, LS l)]
theorem Oe {G : List (Nat × Obj)} (hG : zo G) (l : List Tm) : zz Tryz.prog (Gs G l) := zz.body mixed (zz.body mixed (Qi hG) _) _
theorem Mr {l : List Tm} (h : vU l) (z : Nat) : (Zv l z).length ≤ l.length ∧ ∀ x ∈ Zv l z, Zw RM x ∧ bq 60 x.c := by
 obtain ⟨_, g2, _, g4, _⟩ := vQ (R := RM) (by decide) (l := l.take z) fun t ht => h.root t (List.mem_of_mem_take ht)
 exact ⟨Nat.le_trans g4 (by rw [List.length_take]; omega), fun x hx => ⟨g2 x hx, h.cls z x hx⟩⟩
theorem ki {l : List Tm} (h : vU l) {p : List Nat} (hp : p.Perm (List.range (xn l).length)) (hs : p.Pairwise fun i j => ¬ Tg (fun k => zr.enc ((xn l).getD j zr.dflt) k) (fun k => zr.enc ((xn l).getD i zr.dflt) k) < 0) :
  Zg l = p.map fun i => (xn l).getD i zr.dflt := by
 obtain ⟨g1, g2, _, _, _⟩ := vQ (R := RM) (by decide) h.root
 have e : ((List.range (xn l).length).map fun i => (xn l).getD i zr.dflt) = xn l := by
  apply List.ext_getElem
  ·simp
  ·intro i h1 h2
   rw [List.getElem_map, List.getElem_range, List.getD_eq_getElem?_getD, List.getElem?_eq_getElem h2]
   rfl
 have hpp := hp.map fun i => (xn l).getD i zr.dflt
 rw [e] at hpp
 refine (Qh (R := RM) (l := xn l) (fun x hx => g2 x (List.mem_filter.1 hx).1) (g1.filter _) hpp ?_).symm
 rw [List.pairwise_map]
 refine hs.imp fun {i j} hij => ?_
 have e1 : ∀ x : Tm, zr.dec (α := Tm) (fun k => zr.enc x k) = x := fun x => YY.dec x
 unfold Tg at hij
 rw [e1, e1, uK] at hij
 exact Rat.not_lt.1 hij
def Rv : List AV → Option (List zn × AV)
 | [x_l] => some ([.b (zB Tm x_l), .p (vU (yx (α := Tm) x_l))], .tup 2 (zw [ZD (Zg (yx (α := Tm) x_l)), .i 0]))
 | _ => none
theorem jE (G : List (Nat × Obj)) (l : List Tm) (h : vU l) :
 let q2 := (True ∧ Value.slice (X5 Addr) 0 0 = Value.slice (X5 Addr) 0 0 ∧ lN (Zg l) = 0); let q1 := (j2 ∧ q2 ∧ kI ∧ (4 : Int) = iZ); let q3 := (AV.xl false 2 (lN l) fun i j => zr.enc (gD l i zr.dflt) j); let q4 := (kI ∧ (lZ l) = (lZ l)); let q7 := (AV.fn (Fn.func 46) 1 (fun i => Option.getD [AV.np (nat_lit 0) 0][i]? AV.junk) 0 fun (i : Nat) => AV.junk); let q12 := (ByteArray.data (ByteArray.mk #[(48 : UInt8)])); let q15 := (ByteArray.data (ByteArray.mk #[(49 :
 UInt8)])); Zt [AV.xl false 2 (lN l) fun i j => zr.enc (gD l i zr.dflt) j] → zZ (zg (256 : Int) (lZ l)) q1 ((∃ (z : Nat), (z ≤ lN l ∧ zE q3 q3 ∧ zE q3 q3 ∧ q4 ∧ kI ∧ iZ = (cI z)) ∧ True) ∧ ∀ (z : Nat), let q5 := (gD l (Int.toNat (cI z)) zr.dflt); let q6 := (zt (Tm.q q5)); z ≤ lN l → zZ (zg (cI z) (lZ l)) (bF (DB.db (iZ ≤ (cI z) ∧ (cI z) < (lZ l))) (Ym 300 (zt (Tm.c q5)) ∧ Ym 300 q6 ∧ zZ (zL q6) (2 = lN [AV.junk,
 AV.junk] ∧ q2 ∧ kI ∧ (2 : Int) = iZ) (bF (dK ((cI z) + iO)) (∃ (z' : Nat), ((z' ≤ lN l ∧ lN l - z' < lN l - z) ∧ zE q3 q3 ∧ zE q3 q3 ∧ q4 ∧ kI ∧ (cI z) + iO = (cI z')) ∧ True)))) ((∃ (z : Nat), (z ≤ lN l ∧ zE q7 q7 ∧ zE q3 q3 ∧ q4 ∧ kI ∧ iZ = (cI z)) ∧ ((75 : TypeId) = 75 ∧ 1 = 1 ∧ some (X5 Nat) = some (X5 Nat) ∧ 0 = 0 ∧ lN (Zv l z) = 0) ∧ lN (Zv l z) = 0) ∧ ∀ (z : Nat), let q11 := (gD l (Int.toNat (↑z :
 Int)) zr.dflt); let q10 := (Tm.c q11); let q9 := (zt q10 == Array.toList q12); let q8 := (!zS false q9 || zS false q9); let q13 := (Tm.q q11); let q14 := (dK ((cI z) + iO)); let q16 := (zt q13); let q18 := (zt q10); let q17 := (Tm.q (R6 (AV.str q18) (AV.str q16))); let q19 := (kI ∧ (cI z) = (cI z)); let q20 := (zF q16); let q21 := ((75 = 75 ∧ 1 = 1 ∧ nat_lit 1 = 1 ∧ 0 = 0 ∧ lN (Zv l z) = lN (Zv l z)) ∧ 79 = 79 ∧ 2 = 2 ∧ lN (Zv l z) = lN (Zv l z) ∧ ∀ (i j : Nat), let q22 := (zr.enc
 (gD (Zv l z) i zr.dflt) j); i < lN (Zv l z) → j < 2 → zE q22 q22); let q23 := (I2 (OB.arr (79 : TypeId) 2 (lN (Zv l z)) fun i j => zr.enc (gD (Zv l z) i zr.dflt) j)); let q27 := (nat_lit 1 = 1 ∧ 0 = 0 ∧ lN (Zv l z) = lN (Zv l z)); let q28 := (kI ∧ (lZ (Zv l z)) = (lZ (Zv l z))); let q29 := (q21 ∧ 49 = 49 ∧ 2 = 2 ∧ zt q10 = zt q10 ∧ zt q13 = zt q13); let q45 := (DB.db ((lN (Zv l z) + 1) * 32 ≤ 140737488355328)); z ≤ lN l → zZ (zg (cI z)
 (lZ l)) (bF (DB.db (iZ ≤ (cI z) ∧ (cI z) < (lZ l))) (bF q8 (bF q8 (bF (!!zt q10 == Array.toList q12 || zS false q9) (zZ (bif zt q10 == Array.toList q12 then true else zt q13 == Array.toList q12) (bF q14 (∃ (z' : Nat), ((z' ≤ lN l ∧ lN l - z' < lN l - z) ∧ zE q7 q7 ∧ zE q3 q3 ∧ q4 ∧ kI ∧ (cI z) + iO = (cI z')) ∧ (75 = 75 ∧ 1 = 1 ∧ nat_lit 1 = 1 ∧ 0 = 0 ∧ lN (Zv l z') = lN (Zv l z)) ∧ 79 = 79 ∧ 2 = 2 ∧ lN (Zv l z') =
 lN (Zv l z) ∧ ∀ (i j : Nat), i < lN (Zv l z) → j < 2 → zE (zr.enc (gD (Zv l z) i zr.dflt) j) (zr.enc (gD (Zv l z') i zr.dflt) j))) (zZ (!zt q13 == Array.toList q15) (li q16 ∧ ∃ (z_1 : Rat × Rat), ((Prod.fst z_1 = nK q17 ∧ Prod.snd z_1 = nL q17) ∧ zE q7 q7 ∧ (nat_lit 2 = 2 ∧ 0 = 0) ∧ zE q3 q3 ∧ q4 ∧ q19 ∧ zt (nK q20) = zt (Prod.fst z_1) ∧ zt (nL q20) = zt (Prod.snd z_1) ∧ kI ∧ iZ = iZ) ∧ q21 ∧ 49 = 49 ∧ 2 = 2 ∧ zt q10 = zt q10 ∧ zt q13 = zt q13) (∃ (z_1 : Rat × Rat), ((Prod.fst z_1 = nK q17
 ∧ Prod.snd z_1 = nL q17) ∧ zE q7 q7 ∧ (nat_lit 2 = 2 ∧ 0 = 0) ∧ zE q3 q3 ∧ q4 ∧ q19 ∧ Array.toList q15 = zt (Prod.fst z_1) ∧ zt q13 = zt (Prod.snd z_1) ∧ kI ∧ iZ = iZ) ∧ q21 ∧ 49 = 49 ∧ 2 = 2 ∧ zt q10 = zt q10 ∧ zt q13 = zt q13) ∧ ∀ (z_1 : Rat × Rat), let q26 := (zF q18 * zF (zt (Prod.fst z_1))); let q25 := (zt q26); let q24 := (Tm.q (Z4 (AV.agg 2 (zw [AV.str q25, AV.str (zt (Prod.snd z_1))])))); let q37 := (R6 (AV.str q25) (AV.str (zt (Prod.snd z_1)))); let q39 := (q29 ∧ 49 = 49 ∧ 2 = 2 ∧ zt q26 = zt q26 ∧ zt (Prod.snd z_1) =
 zt (Prod.snd z_1)); let q46 := (bF q14 (∃ (z' : Nat), ((z' ≤ lN l ∧ lN l - z' < lN l - z) ∧ zE q7 q7 ∧ zE q3 q3 ∧ q4 ∧ kI ∧ (cI z) + iO = (cI z')) ∧ (75 = 75 ∧ 1 = 1 ∧ nat_lit 1 = 1 ∧ 0 = 0 ∧ lN (Zv l z') = lN (Zv l z) + 1) ∧ (79 : TypeId) = 79 ∧ 2 = 2 ∧ lN (Zv l z') = lN (Zv l z) + 1 ∧ ∀ (i j : Nat), i < lN (Zv l z) + 1 → j < 2 → zE (if i < lN (Zv l z) then zr.enc (gD (Zv l z) i zr.dflt) j else Sx.rowAt [zw [AV.str q25, AV.str (zt (Prod.snd
 z_1))]] (i - lN (Zv l z)) j) (zr.enc (gD (Zv l z') i zr.dflt) j))); Prod.fst z_1 = nK q17 ∧ Prod.snd z_1 = nL q17 → (zS false (iZ != iZ) = true → Ym 300 (zt (Prod.snd z_1))) ∧ zZ (bif iZ != iZ then true else zg (90 : Int) (Ww (zF (zt (Prod.snd z_1))))) q1 (O9 140 q18 (zt (Prod.fst z_1)) ∧ (∃ (z_2 : Nat), ((z_2 ≤ lN q23 ∧ ∀ (j : Nat), j < z_2 → yF q24 (Tm.q (gD q23 j zr.dflt)) = false) ∧ (nat_lit 0 = 0 ∧ 0 = 0) ∧ (nat_lit 3 = 3 ∧ 0 = 0) ∧ q27 ∧ q28 ∧ kI ∧ iZ = (cI z_2)) ∧ q29 ∧
 49 = 49 ∧ 2 = 2 ∧ zt q26 = zt q26 ∧ zt (Prod.snd z_1) = zt (Prod.snd z_1)) ∧ ∀ (z_2 : Nat), let q30 := (DB.db (iZ ≤ (cI z_2) ∧ (cI z_2) < (lZ (Zv l z)))); let q33 := (gD (Zv l z) (0 + Int.toNat (cI z_2)) zr.dflt); let q32 := (Tm.q q33); let q31 := (zt q32); let q34 := (zF q31); let q36 := (Tm.c q33); let q35 := (R6 (AV.str (zt q36)) (AV.str q31)); let q38 := (kI ∧ (cI z_2) = (cI z_2)); (z_2 ≤ lN q23 ∧ ∀ (j : Nat), j < z_2 → yF q24 (Tm.q (gD q23 j zr.dflt)) = false) → zZ (zg (↑z_2 :
 Int) (lZ (Zv l z))) (bF q30 (jv (zt (Prod.snd z_1)) q31 ∧ zZ (!yF (zF (zt (Prod.snd z_1))) q34) (bF (dK ((cI z_2) + iO)) (∃ (z' : Nat), (((z' ≤ lN q23 ∧ ∀ (j : Nat), j < z' → yF q24 (Tm.q (gD q23 j zr.dflt)) = false) ∧ lN q23 - z' < lN q23 - z_2) ∧ (nat_lit 0 = 0 ∧ 0 = 0) ∧ (nat_lit 3 = 3 ∧ 0 = 0) ∧ q27 ∧ q28 ∧ kI ∧ (cI z_2) + iO = (cI z')) ∧ q29 ∧ 49 = 49 ∧ 2 = 2 ∧ zt q26 = zt q26 ∧ zt (Prod.snd z_1) = zt (Prod.snd z_1))) ((O9 140 (zt (Prod.snd
 z_1)) q31 ∧ zZ (zg (W3 (zF (zt (Prod.snd z_1))) q34) iZ) (∃ (z_3 : Tm × Tm), (z_3 = Yn q35 q37 ∧ (nat_lit 0 = 0 ∧ 0 = 0) ∧ q38 ∧ (nat_lit 4 = 4 ∧ 0 = 0) ∧ nat_lit 5 = 5 ∧ 0 = 0) ∧ (q39 ∧ (79 : TypeId) = 79 ∧ 2 = 2 ∧ zt q26 = zt (Tm.c (Prod.fst z_3)) ∧ zt (Prod.snd z_1) = zt (Tm.q (Prod.fst z_3))) ∧ (79 : TypeId) = 79 ∧ 2 = 2 ∧ zt q36 = zt (Tm.c (Prod.snd z_3)) ∧ zt q32 = zt (Tm.q (Prod.snd z_3))) (∃ (z_3 : Tm × Tm), (z_3 = Yn q35 q37 ∧ (nat_lit 0 = 0 ∧ 0 = 0) ∧ q38 ∧ (nat_lit 4 = 4 ∧ 0 = 0) ∧ nat_lit 5 = 5 ∧ 0 = 0) ∧ (q39 ∧ (79 : TypeId) = 79 ∧ 2 = 2 ∧
 zt q36 = zt (Tm.c (Prod.fst z_3)) ∧ zt q32 = zt (Tm.q (Prod.fst z_3))) ∧ (79 : TypeId) = 79 ∧ 2 = 2 ∧ zt q26 = zt (Tm.c (Prod.snd z_3)) ∧ zt (Prod.snd z_1) = zt (Tm.q (Prod.snd z_3)))) ∧ ∀ (z_3 : Tm × Tm), let q40 := (AV.agg 2 fun (i : Nat) => zr.enc (Prod.fst z_3) (0 + i)); let q41 := (AV.agg 2 fun (i : Nat) => zr.enc (Prod.snd z_3) (0 + i)); z_3 = Yn q35 q37 → bF (yt Tm q40) (bF (yt Tm q41) (Hh (Z4 q40) (Z4 q41) ∧ bF q30 (bF q14 (∃ (z' : Nat), ((z' ≤ lN l ∧ lN l - z' < lN l - z) ∧ zE q7 q7 ∧ zE q3 q3 ∧ q4 ∧ IntKind.i64
 = .i64 ∧ (cI z) + iO = (cI z')) ∧ (75 = 75 ∧ 1 = 1 ∧ nat_lit 1 = 1 ∧ 0 = 0 ∧ lN (Zv l z') = lN (Zv l z)) ∧ 79 = 79 ∧ 2 = 2 ∧ lN (Zv l z') = lN (Zv l z) ∧ ∀ (i j : Nat), let q42 := (Z4 (AV.agg 2 fun (i : Nat) => zr.enc (Prod.fst z_3) (0 + i))); let q43 := (Z4 (AV.agg 2 fun (i : Nat) => zr.enc (Prod.snd z_3) (0 + i))); let q44 := (Tm.q q42); i < lN (Zv l z) → j < 2 → zE (if i = 0 + Int.toNat (cI z_2) ∧ 0 ≤ j ∧ j < 2 then if 0 ≤ 0 + (j - 0) ∧ 0 + (j - 0) < 2 then zr.enc (Tm.mk (Tm.c q42 + Tm.c q43 * wj (Tm.q q43)
 q44) q44) (0 + (j - 0) - 0) else Z0 (Value.agg #[Value.string (ByteArray.mk #[]), Value.string (ByteArray.mk #[])]) (0 + (j - 0)) else zr.enc (gD (Zv l z) i zr.dflt) j) (zr.enc (gD (Zv l z') i zr.dflt) j)))))))) (bF q45 q46 ∧ bF q45 q46)))))))) ((∃ (z_1 : Nat), (z_1 ≤ lN (Zv l (lN l)) ∧ q27 ∧ q28 ∧ (some (X5 Nat) = some (X5 Nat) ∧ 0 = 0 ∧ lN (yC l z_1) = 0) ∧ kI ∧ iZ = (cI z_1)) ∧ q21 ∧ lN (yC l z_1) = 0) ∧ ∀ (z_1 : Nat), let
 q48 := (gD (Zv l z) (0 + Int.toNat (cI z_1)) zr.dflt); let q47 := (Tm.c q48); let q49 := (dK ((cI z_1) + iO)); let q50 := (zt q47); let q53 := (Ww (zF q50)); let q52 := (zg (60 : Int) q53); let q51 := (!zS false q52 || zS false q52); let q54 := (zt (Tm.q q48)); z_1 ≤ lN (Zv l (lN l)) → zZ (zg (cI z_1) (lZ (Zv l z))) (bF (DB.db (iZ ≤ (cI z_1) ∧ (cI z_1) < (lZ (Zv l z)))) (zZ (zt q47 == Array.toList q12) (bF q49 (∃ (z' : Nat), ((z' ≤ List.length
 (Zv l (lN l)) ∧ lN (Zv l (lN l)) - z' < lN (Zv l (lN l)) - z_1) ∧ q27 ∧ q28 ∧ (nat_lit 2 = 2 ∧ 0 = 0 ∧ lN (yC l z') = lN (yC l z_1)) ∧ kI ∧ (cI z_1) + iO = (cI z')) ∧ q21 ∧ 49 = 49 ∧ 2 = 2 ∧ lN (yC l z') = lN (yC l z_1) ∧ ∀ (i j : Nat), i < lN (yC l z_1) → j < 2 → zE (zr.enc (gD (yC l z_1) i zr.dflt) j) (zr.enc (gD (yC l z') i zr.dflt) j))) (Ym 300 q50 ∧ bF q51 (bF q51 ((zS false q52 = true → Ym 300 q54) ∧ zZ q51
 (bF (!!zg (60 : Int) q53 || zS false q52) (zZ (bif zg (60 : Int) q53 then true else zg (40 : Int) (Ww (zF q54))) q1 (bF (DB.db ((lN (yC l z_1) + 1) * 32 ≤ 140737488355328)) (bF q49 (∃ (z' : Nat), ((z' ≤ lN (Zv l (lN l)) ∧ lN (Zv l (lN l)) - z' < lN (Zv l (lN l)) - z_1) ∧ q27 ∧ q28 ∧ (nat_lit 2 = 2 ∧ 0 = 0 ∧ lN (yC l z') = lN (yC l z_1) + 1) ∧ kI ∧ (cI z_1) + iO = (cI z')) ∧ q21 ∧ (49 : TypeId) = 49 ∧ 2 = 2 ∧ lN (yC l z') = List.length
 (yC l z_1) + 1 ∧ ∀ (i j : Nat), i < lN (yC l z_1) + 1 → j < 2 → zE (if i < lN (yC l z_1) then zr.enc (gD (yC l z_1) i zr.dflt) j else Sx.rowAt [zw [AV.str q50, AV.str q54]] (i - lN (yC l z_1)) j) (zr.enc (gD (yC l z') i zr.dflt) j)))))) False))))) (zZ (zg (16 : Int) (lZ (yC l z_1))) q1 (bF (Nat.beq (lN (yC l z_1)) (lN (yC l z_1)) && Nat.beq 2 2 && Nat.blt (nat_lit 2) (nat_lit 3) && Nat.beq 49 49) ((lN (yC l z_1) < 4611686018427387904 ∧ ∀
 (i : Nat), i < lN (yC l z_1) → (Nx fun (j : Nat) => zr.enc (gD (yC l z_1) i zr.dflt) j) = true) ∧ ∀ (p : List Nat), List.Perm p (List.range (lN (yC l z_1))) ∧ List.Pairwise (fun i j => ¬(Tg (fun (j_1 : Nat) => zr.enc (gD (yC l z_1) j zr.dflt) j_1) fun (j : Nat) => zr.enc (gD (yC l z_1) i zr.dflt) j) < iZ) p → j2 ∧ (True ∧ zE (AV.xl false 2 (lN (yC l z_1)) fun i j => zr.enc (gD (yC l z_1) (gD p (0 + i) 0) zr.dflt) j) (AV.xl false 2 (lN (Zg l)) fun i j =>
 zr.enc (gD (Zg l) i zr.dflt) j)) ∧ kI ∧ iZ = iZ)))))) := by
 delta bF dK cI kI j2 lZ lN gD iZ iO
 dsimp only
 intro hb
 simp only [↓yy, ↓Zi, row_one]
 simp only [sS, YK, yi, zk, yo, Yx, XQ, YC, dS]
 have hlen := h.len
 have mem : ∀ z, z < l.length → l.getD z zr.dflt ∈ l := fun z hz => yG hz
 have okq : ∀ q : Rat, (q ≠ 0 → li (zt q)) → Ym 300 (zt q) := fun q hq => by
  by_cases h0 : q = 0
  ·rw [h0]; exact (ZI (by decide) (by decide)).2 ⟨by decide +kernel, by decide +kernel⟩
  ·exact (hq h0).ok.mono (by decide)
 refine ⟨fun h => by omega, fun _ => ⟨⟨0, Nat.zero_le _, rfl⟩, fun z hz => ⟨fun hlt => ?_, fun hge => ?_⟩⟩⟩
 ·have hm := mem z (by omega)
  have o1 : Ym 300 (zt (l.getD z zr.dflt).c) := (ZI (by decide) (by decide)).2 ((h.cs _ hm).mono (by decide))
  have o2 := okq _ (h.qs _ hm)
  have hm0 := rT o2.1 (by rw [zk]; exact (h.root _ hm).1)
  rw [hm0]
  exact ⟨⟨by omega, by omega⟩, o1, o2, zX.2 ⟨fun c => (by cases c), fun _ => ⟨by simp only [yR]; omega, z + 1, ⟨by omega, by omega⟩, by omega⟩⟩⟩
 refine ⟨⟨0, ⟨Nat.zero_le _, rfl⟩, rfl, rfl⟩, fun z hz => ⟨fun hlt => ?_, fun hge => ?_⟩⟩
 ·have hz' : z < l.length := by omega
  have hm := mem z hz'
  obtain ⟨k1, k2⟩ := Mr h z
  have s0 := om hz'
  have s1 := Ox hz'
  have hc := h.cs _ hm
  have hq := h.qs _ hm
  have hv := PF h.root
  have hin : ¬((l.getD z zr.dflt).c = 0 ∨ (l.getD z zr.dflt).q = 0) → Zw RM (rR (l.getD z zr.dflt)) := fun hn => by
   refine hv.1 _ (List.mem_map.2 ⟨_, List.mem_filter.2 ⟨hm, ?_⟩, rfl⟩)
   simp only [not_or] at hn
   simp only [decide_eq_true_eq, Bool.and_eq_true]
   exact hn
  rw [Xe, Xe, Rp]
  generalize l.getD z zr.dflt = t at *
  refine ⟨⟨by omega, by omega⟩, zX.2 ⟨fun c => ?_, fun c => ?_⟩⟩
  ·have c : t.c = 0 ∨ t.q = 0 := by simpa using c
   have e := s0 c
   exact ⟨by simp only [yR]; omega, z + 1, ⟨⟨by omega, by omega⟩, by omega⟩, by rw [e], by rw [e], fun i j _ _ => by rw [e]; exact zT _⟩
  have c : ¬(t.c = 0 ∨ t.q = 0) := by simpa using c
  have c2 := not_or.1 c
  have e := s1 c
  rw [pn] at e
  have hn := hin c
  rw [pn] at hn
  obtain ⟨r1, r2, r3⟩ := HT (hq c2.2)
  refine ⟨zX.2 ⟨fun _ => ⟨hq c2.2, (nK t.q, nL t.q), ⟨⟨rfl, rfl⟩, rfl, rfl⟩, fun _ _ _ _ => trivial⟩, fun c3 => ⟨(nK t.q, nL t.q), ⟨⟨rfl, rfl⟩, ?_⟩, fun _ _ _ _ => trivial⟩⟩, fun y ⟨y1, y2⟩ => ?_⟩
  ·have c3 : t.q = 1 := by simpa using c3
   rw [c3, Nc.1, Nc.2]
   decide +kernel
  obtain ⟨ya, yb⟩ := y
  simp only at y1 y2 ⊢
  rw [← y1, ← y2] at e hn
  rw [← y1] at r3
  obtain ⟨b1, b2, b3, b4⟩ := wN hn (by decide)
  have b1 : bq 8 yb := b1
  have l90 : zg 90 (Ww yb) = false := Bool.eq_false_iff.2 fun e => by
   have := (zq _ _).1 e
   have := vG (by decide) b1
   omega
  rw [l90]
  have okb : Ym 300 (zt yb) := (ZI (by decide) (by decide)).2 (b1.mono (by decide))
  have okc : O9 140 (zt t.c) (zt ya) := ⟨(ZI (by decide) (by decide)).2 (hc.mono (by decide)), (ZI (by decide) (by decide)).2 (r3.mono (by decide))⟩
  have hcb : bq 77 (t.c * ya) := Qz hc r3
  refine ⟨fun _ => okb, zX.2 ⟨fun c => (by cases c), fun _ => ⟨okc, ⟨0, ⟨⟨Nat.zero_le _, fun j hj => absurd hj (Nat.not_lt_zero _)⟩, rfl⟩, fun _ _ _ _ => trivial⟩, fun k ⟨q1, q2⟩ => ⟨fun kl => ?_, fun kg => ?_⟩⟩⟩⟩
  ·have hk : k < (Zv l z).length := by omega
   obtain ⟨x1, x2⟩ := k2 _ (yG hk)
   have sa := pN (t := ⟨t.c * ya, yb⟩) (d := zr.dflt) (cl := Zv l z) (i := k) hk q2
   have ra := pT hn x1
   have rs := pT x1 hn
   have sy := Mw hn x1
   generalize hx0 : (Zv l z).getD k zr.dflt = x at *
   obtain ⟨xc, xq⟩ := x
   obtain ⟨f1, f2, f3, f4⟩ := wN x1 (by decide)
   have f1 : bq 8 xq := f1
   have okx : Ym 140 (zt xq) := (ZI (by decide) (by decide)).2 (f1.mono (by decide))
   have okb2 : Ym 140 (zt yb) := (ZI (by decide) (by decide)).2 (b1.mono (by decide))
   refine ⟨⟨by omega, by omega⟩, ra, zX.2 ⟨fun c => ?_, fun c => ⟨⟨⟨okb2, okx⟩, fun hlt2 => ?_, fun hge2 => ?_⟩, fun w hw => ?_⟩⟩⟩
   ·have c : yF yb xq = false := by simpa using c
    refine ⟨by simp only [yR]; omega, k + 1, ⟨⟨⟨by omega, fun j hj => ?_⟩, by omega⟩, by omega⟩, fun _ _ _ _ => trivial⟩
    by_cases ej : j = k
    ·subst ej
     rw [hx0]; exact c
    ·exact q2 j (by omega)
   ·have hl := (uK _ _).1 hlt2
    refine ⟨_, rfl, ?_⟩
    unfold Yn
    rw [if_pos (show (⟨t.c * ya, yb⟩ : Tm).q < (⟨xc, xq⟩ : Tm).q from hl)]
    exact ⟨⟨fun _ _ _ _ => trivial, rfl, rfl⟩, rfl, rfl⟩
   ·have hge2 : 0 ≤ W3 yb xq := hge2
    have hl : ¬ yb < xq := fun e => by have := (uK _ _).2 e; omega
    refine ⟨_, rfl, ?_⟩
    unfold Yn
    rw [if_neg (show ¬ (⟨t.c * ya, yb⟩ : Tm).q < (⟨xc, xq⟩ : Tm).q from hl)]
    exact ⟨⟨fun _ _ _ _ => trivial, rfl, rfl⟩, rfl, rfl⟩
   ·have c : yF yb xq = true := by simpa using c
    have sa := sa c
    have lh := LJ ⟨xc, xq⟩ ⟨t.c * ya, yb⟩
    rw [← hw] at lh
    have hpl : Hh w.1 w.2 := by
     rw [hw]
     unfold Yn
     split
     ·exact ⟨rs, sy c, hcb.mono (by decide), x2.mono (by decide)⟩
     ·exact ⟨ra, c, x2.mono (by decide), hcb.mono (by decide)⟩
    rw [← lh]
    refine ⟨hpl, ⟨by omega, by omega⟩, by simp only [yR]; omega, z + 1, ⟨⟨by omega, by omega⟩, by omega⟩, ?_, ?_, fun i j hi hj => ?_⟩
    ·rw [e, sa, List.length_set]
    ·rw [e, sa, List.length_set]
    ·rw [e, sa]
     exact gq _ _ _ hk i j hj
  ·have sn := T6 (t := ⟨t.c * ya, yb⟩) (d := zr.dflt) (cl := Zv l z) fun j hj => q2 j (by omega)
   have fin : ((Zv l z).length + 1) * 32 ≤ 140737488355328 ∧ yR IntKind.i64 ((z : Int) + 1) ∧ ∃ z', ((z' ≤ l.length ∧ l.length - z' < l.length - z) ∧ (z : Int) + 1 = (z' : Int)) ∧ (Zv l z').length = (Zv l z).length + 1 ∧ (Zv l z').length = (Zv l z).length + 1 ∧
     ∀ (i j : Nat), i < (Zv l z).length + 1 → j < 2 → zE (if i < (Zv l z).length then zr.enc ((Zv l z).getD i zr.dflt) j else zw [AV.str (zt (t.c * ya)), AV.str (zt yb)] j) (zr.enc ((Zv l z').getD i zr.dflt) j) := by
    refine ⟨by omega, by simp only [yR]; omega, z + 1, ⟨⟨by omega, by omega⟩, by omega⟩, by rw [e, sn]; simp, by rw [e, sn]; simp, fun i j hi hj => ?_⟩
    rw [e, sn]
    exact Pk _ ⟨t.c * ya, yb⟩ i j hi
   exact ⟨fin, fin⟩
 ·have hz' : z = l.length := by omega
  subst hz'
  obtain ⟨k1, k2⟩ := Mr h l.length
  refine ⟨⟨0, ⟨Nat.zero_le _, rfl, rfl⟩, fun _ _ _ _ => trivial, rfl⟩, fun y hy => ⟨fun yl => ?_, fun yg => ?_⟩⟩
  ·have hyl : y < (Zv l l.length).length := by omega
   have os := OJ hyl
   obtain ⟨x1, x2⟩ := k2 _ (yG hyl)
   have ho : (yC l y).length ≤ y := by
    unfold yC
    exact Nat.le_trans (List.length_filter_le _ _) (by rw [List.length_take]; omega)
   rw [Xe]
   generalize (Zv l l.length).getD y zr.dflt = x at *
   obtain ⟨f1, f2, f3, f4⟩ := wN x1 (by decide)
   refine ⟨⟨by omega, by omega⟩, zX.2 ⟨fun c => ?_, fun c => ?_⟩⟩
   ·have c : x.c = 0 := by simpa using c
    rw [if_pos c, List.append_nil] at os
    exact ⟨by simp only [yR]; omega, y + 1, ⟨⟨by omega, by omega⟩, by rw [os], by omega⟩, fun _ _ _ _ => trivial, by rw [os], fun i j _ _ => by rw [os]; exact zT _⟩
   ·have c : x.c ≠ 0 := by simpa using c
    rw [if_neg c] at os
    have l60 : zg 60 (Ww x.c) = false := Bool.eq_false_iff.2 fun e => by
     have := (zq _ _).1 e
     have := vG (by decide) x2
     omega
    have l40 : zg 40 (Ww x.q) = false := Bool.eq_false_iff.2 fun e => by
     have := (zq _ _).1 e
     have := vG (by decide) f1
     omega
    rw [l60, l40]
    refine ⟨(ZI (by decide) (by decide)).2 (x2.mono (by decide)), fun _ => (ZI (by decide) (by decide)).2 (f1.mono (by decide)), zX.2 ⟨fun c => (by cases c), fun _ => ⟨by omega, by simp only [yR]; omega, y + 1, ⟨⟨by omega, by omega⟩, by rw [os]; simp, by omega⟩, fun _ _ _ _ => trivial, by rw [os]; simp, fun i j hi _ => ?_⟩⟩⟩
    rw [os]
    exact Pk _ x i j hi
  ·have hye : y = (Zv l l.length).length := by omega
   subst hye
   rw [NG]
   have hmk : (Zg l).length = (xn l).length := (Xs (xn l)).length_eq
   have h16 := h.out
   refine ⟨fun h => by omega, fun _ => zX.2 ⟨fun _ => ⟨⟨by omega, fun i hi => ?_⟩, fun p ⟨p1, p2⟩ => ?_⟩, fun c => ?_⟩⟩
   ·have hm : (xn l).getD i zr.dflt ∈ Zv l l.length := by rw [RA]; exact (List.mem_filter.1 (yG hi)).1
    obtain ⟨x1, _⟩ := k2 _ hm
    obtain ⟨f1, f2, f3, f4⟩ := wN x1 (by decide)
    unfold Nx
    have e1 : zr.dec (α := Tm) (fun j => zr.enc ((xn l).getD i zr.dflt) j) = (xn l).getD i zr.dflt := YY.dec _
    have e2 : zr.ok (α := Tm) (fun j => zr.enc ((xn l).getD i zr.dflt) j) = true := YY.ok _
    rw [e1, e2, Bool.true_and, Bool.and_eq_true]
    exact ⟨Nat.ble_eq_true_of_le f4, Nat.ble_eq_true_of_le (by rw [f3]; decide)⟩
   ·have hP := ki h p1 p2
    have hpl : p.length = (xn l).length := by rw [p1.length_eq, List.length_range]
    refine ⟨rfl, fun h => h, rfl, hmk, fun i j hi hj => ?_⟩
    have : (p.map fun i => (xn l).getD i zr.dflt).getD i zr.dflt = (xn l).getD (p.getD i 0) zr.dflt := by
     simp [List.getD_eq_getElem?_getD, List.getElem?_map, List.getElem?_eq_getElem (show i < p.length by omega)]
    show zE (zr.enc ((xn l).getD (p.getD i 0) zr.dflt) j) (zr.enc ((Zg l).getD i zr.dflt) j)
    rw [hP, this]
    exact zT _
   ·rw [Nat.beq_refl] at c; cases c
theorem K4 {G : List (Nat × Obj)} (hG : zo G) (l : List Tm) (h : vU l) : zU Tryz.prog G 20 [ZD l] (.tup 2 (zw [ZD (Zg l), .i 0])) :=
 zW (T := Gs G l) (an := iw l) mixed (Oe hG l) (Eq.mp (by kernel_rfl) (jE G l h))
theorem mP {G : List (Nat × Obj)} (hG : zo G) : zp Tryz.prog G 20 Rv := by
 intro xs ps r h hp
 unfold Rv at h
 split at h
 ·skip
  rename_i x_l
  cases h
  obtain ⟨q0, q1, -⟩ := ZF hp
  exact weaken (ys := [ZD (yx (α := Tm) x_l)]) ⟨zd q0, trivial⟩ (K4 hG (yx (α := Tm) x_l) q1)
 ·cases h
end Go.Te
