/- root: the normal form and the ratio of roots, of numbers with few digits. -/
import Derived.Test.YthbpnknhfokadaaGreatDoorThQa
import Derived.Test.YthbpnknhfokadaaGreatDoorArZ
import Derived.Shelf.SlLaysF0
import Derived.Shelf.SlSortCmp.NoneTotal
import Derived.Test.YthbpnknhfokadaaGreatDoorSxSo
import Derived.Test.YthbpnknhfokadaaGreatDoorThS
import Derived.Test.YthbpnknhfokadaaGreatDoorProg
import Derived.Test.YthbpnknhfokadaaGreatDoorThIf
set_option linter.unusedSimpArgs false
set_option linter.unusedVariables false
namespace Go.Te
open Go Go.Sx Go.Proofs Go.Ar
set_option maxRecDepth 100000
set_option maxHeartbeats 4000000
def SE : List AV → Option (List zN × AV)
 | [.v (.int .i64 n), .v (.int .i64 d)] => some ([.p (0 < n), .p (0 < d ∧ d ≤ 10000000000000000), .p (n * d ≤ 100000000000000000)], .tup 2 (zw [.str (ZL (nrm (n * d).toNat).1 d.toNat), .str (Lib.itoa (nrm (n * d).toNat).2)]))
 | _ => none
theorem kM {G : List (Nat × Obj)} (hG : zO G) : zP Tryz.prog G 124 SE := by
 intro xs ps r h hp
 unfold SE at h
 split at h
 ·rename_i n d
  cases h
  obtain ⟨q0, q1, q2, -⟩ := Zo hp
  have hs := OR hG
  obtain ⟨_, t, fr, G', rfl⟩ := hG
  exact zv mixed hs (Eq.mp (by kernel_rfl) (Nv t fr G' n d q0 q1 q2) : vm Tryz.prog (GH ((2, Obj.cells zL t fr) :: G')) 124 (Mi (n * d).toNat) [.i n, .i d] (.tup 2 (zw [.str (ZL (nrm (n * d).toNat).1 d.toNat), .str (Lib.itoa (nrm (n * d).toNat).2)])))
 ·cases h
theorem um {a : zj} (h : zH a = 0) (h0 : 0 ≤ zo a) : zk a = false := by
 have h2 := Rat.num_nonneg.2 h0
 rw [(Z3 h).1] at h2
 have := (SG (a := a)).1
 cases hm : zk a with
 | false => rfl
 | true =>
  rw [hm, cond_true] at this
  have hz : zK a = 0 := by omega
  have e := wV (Zq.1 h).1
  rw [hz] at e
  rw [← e] at hm
  have : ∀ r : zj, zk (Lib.itoa ((0 : Nat) : Int) ++ r) = false := fun r => by rw [Go.Ar.yY, z7 (by omega)]; rfl
  have := this (bif Nat.beq (zn a) 1 then [] else 47 :: Lib.decDigits (zn a))
  unfold Yd at hm
  rw [show Lib.itoa (0 : Int) = Lib.itoa ((0 : Nat) : Int) from rfl, this] at hm
  cases hm
theorem Lm {n : Int} (h : 0 ≤ n) : zk (Lib.itoa n) = false ∧ zQ (Lib.itoa n) = Lib.itoa n := by
 obtain ⟨m, rfl⟩ : ∃ m : Nat, n = m := ⟨n.toNat, by omega⟩
 have hd := (ZS.1 (Yr m))
 have hm : zk (Lib.itoa (m : Int)) = false := by
  rw [Go.Ar.yY]
  match hq : Lib.decDigits m, hd with
  | c :: r, hd =>
   have := y8.1 (hd.2.1 c List.mem_cons_self)
   exact beq_eq_false_iff_ne.2 fun e => by subst e; exact absurd this.1 (by decide)
 refine ⟨hm, ?_⟩
 unfold zQ
 rw [hm]; rfl
theorem se (n : Int) : (zQ (Lib.itoa n)).length = XZ n := by
 by_cases h : 0 ≤ n
 ·rw [(Lm h).2, Xw, if_neg (by omega)]; rfl
 ·have e : Lib.itoa n = 45 :: Lib.decDigits n.natAbs := by
   have := Go.Ar.itoa_neg (n := n.natAbs) (by omega)
   rw [show -((n.natAbs : Nat) : Int) = n by omega] at this
   exact this
  rw [e]
  show (Lib.decDigits n.natAbs).length = _
  rw [Lib.decDigits_length]; rfl
def IE (r : AV) : List AV → Option (List zN × AV) := fun _ => some ([.p False], r)
theorem Pb {P : Program} {G : List (Nat × Obj)} {f : FuncId} (r : AV) : zP P G f (IE r) := by
 intro xs ps r' h hp
 cases h
 exact (hp _ List.mem_cons_self).elim
def RR : List AV → Option (List zN × AV)
 | [.str a] => some ([.p (YZ 300 a)], .agg 2 (zw [.str (Lib.itoa (zo a).num), .str (Lib.itoa ((zo a).den : Int))]))
 | _ => none
theorem iS (G : List (Nat × Obj)) (a : List UInt8) (hr : YZ 300 a) :
 Zy [AV.str a] → YZ 300 a ∧ 2 = 2 ∧ Lib.itoa (Rat.num (zo a)) = Lib.itoa (Rat.num (zo a)) ∧ Lib.itoa (cI (Rat.den (zo a))) = Lib.itoa (cI (Rat.den (zo a))) := by
 delta cI
 intro hb
 simp only [sS, dS]
 exact hr
theorem HT {G : List (Nat × Obj)} (hG : zO G) (a : List UInt8) (hr : YZ 300 a) : zu Tryz.prog G 112 [.str a] (.agg 2 (zw [.str (Lib.itoa (zo a).num), .str (Lib.itoa ((zo a).den : Int))])) :=
 zv (T := (Xh G).plus 85 SR) (an := .auto) mixed (zz.plus zq (pX hG)) (Eq.mp (by kernel_rfl) (iS G a hr))
theorem mb {G : List (Nat × Obj)} (hG : zO G) : zP Tryz.prog G 112 RR := by
 intro xs ps r h hp
 unfold RR at h
 split at h
 ·skip
  rename_i a
  cases h
  obtain ⟨q0, -⟩ := Zo hp
  exact weaken (ys := [.str a]) ⟨zV _, trivial⟩ (HT hG a q0)
 ·cases h
def uJ : List AV → Option (List zN × AV)
 | [.str m] => some ([.p (ZY m = true), .p (m.length ≤ 17)], .tup 2 (zw [.i (zY m), .b true]))
 | _ => none
theorem mL (m : List UInt8) (hi : ZY m = true) (hl : m.length ≤ 17) :
 Zy [AV.str m] → zZ (zG (17 : Int) (lZ m)) (j2 ∧ (True ∧ kI ∧ iZ = zY m) ∧ false = true) (bF (ZY m) (lN m ≤ 18 ∧ j2 ∧ (True ∧ kI ∧ zY m = zY m) ∧ true = true)) := by
 delta bF kI j2 lZ lN iZ
 intro hb
 simp only [sS, dS]
 refine ⟨fun h => by omega, fun _ => ?_⟩
 rw [hi]
 exact ⟨by omega, rfl⟩
theorem Kb (m : List UInt8) (hi : ZY m = true) (hl : m.length ≤ 17) : zu Tryz.prog [] 123 [.str m] (.tup 2 (zw [.i (zY m), .b true])) :=
 zv (T := T0.plus 145 Vk) (an := .auto) mixed (zz.plus zq So) (Eq.mp (by kernel_rfl) (mL m hi hl))
theorem pC : zP Tryz.prog [] 123 uJ := by
 intro xs ps r h hp
 unfold uJ at h
 split at h
 ·skip
  rename_i m
  cases h
  obtain ⟨q0, q1, -⟩ := Zo hp
  exact weaken (ys := [.str m]) ⟨zV _, trivial⟩ (Kb m q0 q1)
 ·cases h
def uc : List AV → Option (List zN × AV)
 | [.str s, .str p] => some ([.b (p == [45]), .p (zk s = false)], .b false)
 | _ => none
theorem Pi : zP Tryz.prog [] 44 uc := by
 intro xs ps r h hp
 unfold uc at h
 split at h
 ·rename_i s p
  cases h
  have q : (p == [45]) = true := hp _ List.mem_cons_self
  have q1 : zk s = false := hp _ (List.mem_cons_of_mem _ List.mem_cons_self)
  have : zu Tryz.prog [] 44 [.str s, .str p] (.b (zk s)) := rp [.str s, .str p] _ _ rfl fun c hc => by
   rw [List.mem_singleton] at hc
   rw [hc]; exact q
  rw [q1] at this
  exact this
 ·cases h
noncomputable def gb (G : List (Nat × Obj)) : Tb := (((((Xh G).plus 43 ua).plus 112 RR).plus 95 (Yl fun s => .str (zQ s))).plus 44 uc).body Tryz.prog [(154, .auto)]
theorem TN {G : List (Nat × Obj)} (hG : zO G) : zz Tryz.prog (gb G) := zz.body mixed (zz.plus (zz.plus (zz.plus (zz.plus zq (SC hG)) (mb hG)) (zP.mono vI)) (zP.mono Pi)) _
def Ld  : yQ :=
 .two .auto (.two (.two .auto (.one (.unroll 2 .auto))) (.two (.two .auto (.one (.unroll 2 .auto))) .auto))
def Ku  : yQ :=
 .two .auto (.two (.two .auto (.one (.unroll 3 .auto))) (.two (.two .auto (.one (.unroll 3 .auto))) .auto))
theorem NY {x : Rat} (h : bq 90 x) : (zQ (Lib.itoa x.num)).length ≤ 90 ∧ (Lib.itoa (x.den : Int)).length ≤ 90 := by
 rw [se, Go.Ar.yY, Lib.decDigits_length]
 exact ⟨xf (by decide) h.1, (Zw (by decide)).2 h.2⟩
structure oY (a : zj) : Prop where
 ok : YZ 90 a
 pos : 0 ≤ zo a
theorem sE {a : zj} (h : oY a) : YZ 300 a ∧ (zQ (Lib.itoa (zo a).num)).length ≤ 90 ∧ (Lib.itoa ((zo a).den : Int)).length ≤ 90 ∧ zk a = false := ⟨h.1.mono (by decide), (NY h.1.2).1, (NY h.1.2).2, um h.1.1 h.2⟩
theorem Lt (G : List (Nat × Obj)) (a : zj) (ha : oY a) :
 let q1 := (lZ (Lib.itoa (cI (Rat.den (zo a))))); let q2 := (lZ (zQ (Lib.itoa (Rat.num (zo a))))); Zy [AV.xl false 1 1 fun (x x_1 : Nat) => AV.str a, AV.xl false 1 1 fun (x x_1 : Nat) => AV.str a] → YZ 300 a ∧ YZ 300 a ∧ zZ (zG (90 : Int) (if q1 > q2 then q1 else q2)) (kI ∧ (4 : Int) = iZ) (zk a = false ∧ kI ∧ iZ = iZ) := by
 delta cI kI lZ iZ
 dsimp only
 intro hb
 simp only [sS, dS]
 obtain ⟨a1, a2, a3, a4⟩ := sE ha
 exact ⟨a1, a1, fun h => by split at h <;> omega, fun _ => a4⟩
theorem Ly (G : List (Nat × Obj)) (a b : zj) (ha : oY a) (hc : oY b) :
 let q1 := (lZ (Lib.itoa (cI (Rat.den (zo a))))); let q2 := (lZ (zQ (Lib.itoa (Rat.num (zo a))))); let q3 := (kI ∧ (4 : Int) = iZ); let q4 := (lZ (Lib.itoa (cI (Rat.den (zo b))))); let q5 := (lZ (zQ (Lib.itoa (Rat.num (zo b))))); Zy [AV.xl false 1 2 fun (i x : Nat) => zw [AV.str a, AV.str b] i, AV.xl false 1 2 fun (i x : Nat) => zw [AV.str a, AV.str b] i] → YZ 300 a ∧ YZ 300 a ∧ zZ (zG (90 : Int) (if q1 > q2 then q1 else q2)) q3 (YZ 300 b ∧ YZ 300 b ∧ zZ (zG (90
 : Int) (if q4 > q5 then q4 else q5)) q3 (zk a = false ∧ zk b = false ∧ kI ∧ iZ = iZ)) := by
 delta cI kI lZ iZ
 dsimp only
 intro hb
 simp only [sS, dS]
 obtain ⟨a1, a2, a3, a4⟩ := sE ha
 obtain ⟨b1, b2, b3, b4⟩ := sE hc
 exact ⟨a1, a1, fun h => by split at h <;> omega, fun _ => ⟨b1, b1, fun h => by split at h <;> omega, fun _ => ⟨a4, b4⟩⟩⟩
theorem PD {f : Bool} {x : Nat → Nat → AV} {a : zj} (h : Zk (x 0 0) = true) (e : AV.bytes (x 0 0) = a) : zd (.xl f 1 1 x) (.xl false 1 1 fun _ _ => .str a) := by
 refine ⟨(fun h => by cases h), rfl, rfl, fun i j hi hj => ?_⟩
 obtain rfl : i = 0 := by omega
 obtain rfl : j = 0 := by omega
 rw [← e]
 exact ZT (Xq h)
theorem P7 {f : Bool} {x : Nat → Nat → AV} {a b : zj} (h : Zk (x 0 0) = true) (h2 : Zk (x 1 0) = true) (e : AV.bytes (x 0 0) = a) (e2 : AV.bytes (x 1 0) = b) : zd (.xl f 1 2 x) (.xl false 1 2 fun i _ => zw [.str a, .str b] i) := by
 refine ⟨(fun h => by cases h), rfl, rfl, fun i j hi hj => ?_⟩
 obtain rfl : j = 0 := by omega
 rw [← e, ← e2]
 match i, hi with
 | 0, _ => exact ZT (Xq h)
 | 1, _ => exact ZT (Xq h2)
def PR : List AV → Option (List zN × AV)
 | [.xl _ 1 1 x, .xl _ 1 1 y] => some ([.b (Zk (x 0 0) && Zk (y 0 0) && (AV.bytes (y 0 0) == AV.bytes (x 0 0))), .p (oY (AV.bytes (x 0 0)))], .i 0)
 | [.xl _ 1 2 x, .xl _ 1 2 y] => some ([.b (Zk (x 0 0) && Zk (x 1 0) && Zk (y 0 0) && Zk (y 1 0) && (AV.bytes (y 0 0) == AV.bytes (x 0 0)) && (AV.bytes (y 1 0) == AV.bytes (x 1 0))), .p (oY (AV.bytes (x 0 0))), .p (oY (AV.bytes (x 1 0)))], .i 0)
 | _ => none
theorem jn {G : List (Nat × Obj)} (hG : zO G) : zP Tryz.prog G 110 PR := by
 intro xs ps r h hp
 unfold PR at h
 split at h
 ·rename_i x _ y
  cases h
  have q0 : (Zk (x 0 0) && Zk (y 0 0) && (AV.bytes (y 0 0) == AV.bytes (x 0 0))) = true := hp _ List.mem_cons_self
  have q1 := hp _ (List.mem_cons_of_mem _ List.mem_cons_self)
  simp only [Bool.and_eq_true, beq_iff_eq] at q0
  exact weaken (ys := [_, _]) ⟨PD q0.1.1 rfl, PD q0.1.2 q0.2, trivial⟩ (zv mixed (TN hG) (Eq.mp (by kernel_rfl) (Lt G (AV.bytes (x 0 0)) q1) : vm Tryz.prog (gb G) 110 Ld [.xl false 1 1 (fun _ _ => .str (AV.bytes (x 0 0))), .xl false 1 1 (fun _ _ => .str (AV.bytes (x 0 0)))] (.i 0)))
 ·rename_i x _ y
  cases h
  have q0 : (Zk (x 0 0) && Zk (x 1 0) && Zk (y 0 0) && Zk (y 1 0) && (AV.bytes (y 0 0) == AV.bytes (x 0 0)) && (AV.bytes (y 1 0) == AV.bytes (x 1 0))) = true := hp _ List.mem_cons_self
  have q1 := hp _ (List.mem_cons_of_mem _ List.mem_cons_self)
  have q2 := hp _ (List.mem_cons_of_mem _ (List.mem_cons_of_mem _ List.mem_cons_self))
  simp only [Bool.and_eq_true, beq_iff_eq] at q0
  exact weaken (ys := [_, _]) ⟨P7 q0.1.1.1.1.1 q0.1.1.1.1.2 rfl rfl, P7 q0.1.1.1.2 q0.1.1.2 q0.1.2 q0.2, trivial⟩ (zv mixed (TN hG) (Eq.mp (by kernel_rfl) (Ly G (AV.bytes (x 0 0)) (AV.bytes (x 1 0)) q1 q2) : vm Tryz.prog (gb G) 110 Ku [.xl false 1 2 (fun i _ => zw [.str (AV.bytes (x 0 0)), .str (AV.bytes (x 1 0))] i), .xl false 1 2 (fun i _ => zw [.str (AV.bytes (x 0 0)), .str (AV.bytes (x 1 0))] i)] (.i 0)))
 ·cases h
theorem pZ (n : Int) : 0 < XZ n := by
 unfold XZ
 rw [← Lib.decDigits_length]
 exact yi _
theorem Wz (n : Int) : n.natAbs < 10 ^ XZ n := (Zw (pZ n)).1 (Nat.le_refl _)
theorem qX {n : Int} (h : n ≠ 0) : (Lib.itoa n == [48]) = false := beq_eq_false_iff_ne.2 fun e => by
 have := (zb n).2
 rw [e] at this
 have h0 : zY [48] = 0 := by decide
 omega
theorem w5 (k : Nat) : zW (k : Rat) = Lib.itoa (k : Int) := by rw [← Rat.intCast_natCast, mI]
structure lP (a : zj) : Prop where
 ok : YZ 90 a
 pos : 0 < zo a
 len : XZ (zo a).num + Lib.nDigits (zo a).den ≤ 17
noncomputable def Gb (G : List (Nat × Obj)) : Tb := ((((((Xh G).plus 110 PR).plus 112 RR).plus 123 uJ).plus 124 SE).plus 125 (IE (.str []))).plus 126 (IE .junk)
theorem nZ {G : List (Nat × Obj)} (hG : zO G) : zz Tryz.prog (Gb G) := zz.plus (zz.plus (zz.plus (zz.plus (zz.plus (zz.plus zq (jn hG)) (mb hG)) (zP.mono pC)) (kM hG)) (Pb _)) (Pb _)
def nK (x : Rat) : Rat := mkRat (nrm (mQ x)).1 x.den
def nL (x : Rat) : Rat := ((nrm (mQ x)).2 : Rat)
def uf : List AV → Option (List zN × AV)
 | [.str q] => some ([.p (lP q)], .tup 3 (zw [.str (zW (nK (zo q))), .str (zW (nL (zo q))), .i 0]))
 | _ => none
theorem NR (G : List (Nat × Obj)) (q : List UInt8) (hr : lP q) :
 Zy [AV.str q] → zZ (Zk (AV.str q) && Zk (AV.str q) && AV.bytes (AV.str q) == AV.bytes (AV.str q)) (oY (AV.bytes (AV.str q)) ∧ YZ 300 q ∧ zZ (Lib.itoa (Rat.num (zo q)) == bA #[(48 : UInt8)]) (3 = lN [AV.junk, AV.junk, AV.junk] ∧ ((True ∧ bA #[(48 : UInt8)] = zW (nK (zo q))) ∧ bA #[(49 : UInt8)] = zW (nL (zo q))) ∧ kI ∧ iZ = iZ) (bF (DB.db (yD .i64 ((lZ (Lib.itoa (Rat.num (zo q)))) +
 (lZ (Lib.itoa (cI (Rat.den (zo q)))))))) (zZ (leB ((lZ (Lib.itoa (Rat.num (zo q)))) + (lZ (Lib.itoa (cI (Rat.den (zo q)))))) (17 : Int)) (ZY (Lib.itoa (Rat.num (zo q))) = true ∧ lN (Lib.itoa (Rat.num (zo q))) ≤ 17 ∧ ZY (Lib.itoa (cI (Rat.den (zo q)))) = true ∧ lN (Lib.itoa (cI (Rat.den (zo q)))) ≤ 17 ∧ iZ < zY (Lib.itoa (Rat.num (zo q))) ∧ (iZ < zY (Lib.itoa (cI (Rat.den (zo q)))) ∧ zY (Lib.itoa (cI (Rat.den (zo q)))) ≤ (10000000000000000 : Int)) ∧ zY (Lib.itoa
 (Rat.num (zo q))) * zY (Lib.itoa (cI (Rat.den (zo q)))) ≤ (100000000000000000 : Int) ∧ 3 = lN [AV.junk, AV.junk, AV.junk] ∧ ((True ∧ ZL (↑(Prod.fst (nrm (Int.toNat (zY (Lib.itoa (Rat.num (zo q))) * zY (Lib.itoa (cI (Rat.den (zo q)))))))) : Int) (Int.toNat (zY (Lib.itoa (cI (Rat.den (zo q)))))) = zW (nK (zo q))) ∧ Lib.itoa (↑(Prod.snd (nrm (Int.toNat (zY (Lib.itoa (Rat.num (zo q))) * zY (Lib.itoa (cI (Rat.den (zo q)))))))) : Int) = zW (nL (zo q))) ∧ kI ∧ iZ = iZ) (False ∧ False ∧ ZD (Operand.tmp 66)))))
 False := by
 delta bF bA cI kI lZ lN iZ
 intro hb
 simp only [sS, dS]
 have hc : oY q := ⟨hr.ok, Rat.le_of_lt hr.pos⟩
 have c1 : (Zk (AV.str q) && Zk (AV.str q) && (AV.str q).bytes == (AV.str q).bytes) = true := by
  show (true && true && (q == q)) = true
  simp
 have h300 := hr.ok.mono (k := 300) (by decide)
 have hl := hr.len
 have hp := hr.pos
 generalize zo q = x at *
 have hn : 0 < x.num := by
  have := Rat.num_nonneg.2 (Rat.le_of_lt hp)
  have h2 : x.num ≠ 0 := fun e => (Rat.ne_of_gt hp) (Rat.num_eq_zero.1 e)
  omega
 have hd := x.den_pos
 have l1 : (Lib.itoa x.num).length = XZ x.num := by rw [Xw, if_neg (by omega)]; rfl
 have l2 : (Lib.itoa (x.den : Int)).length = Lib.nDigits x.den := by rw [Go.Ar.yY, Lib.decDigits_length]
 have b1 := Wz x.num
 have b2 := Wz (x.den : Int)
 have e2 : XZ (x.den : Int) = Lib.nDigits x.den := by unfold XZ; rw [Int.natAbs_natCast]
 rw [e2, Int.natAbs_natCast] at b2
 have b3 : x.num.natAbs * x.den < 10 ^ 17 := by
  refine Nat.lt_of_lt_of_le (Nat.mul_lt_mul'' b1 b2) ?_
  rw [← Nat.pow_add]
  exact Nat.pow_le_pow_right (by omega) hl
 have p1 := pZ x.num
 have b4 : x.den < 10 ^ 16 := Nat.lt_of_lt_of_le b2 (Nat.pow_le_pow_right (by omega) (by omega))
 rw [show 10 ^ 16 = 10000000000000000 from by decide] at b4
 rw [show 10 ^ 17 = 100000000000000000 from by decide] at b3
 have i1 := zb x.num
 have i2 := zb (x.den : Int)
 have z1 : (Lib.itoa x.num == [48]) = false := qX (by omega)
 have em : (x.num * (x.den : Int)).toNat = mQ x := by
  unfold mQ
  obtain ⟨N, hN⟩ : ∃ N : Nat, x.num = N := ⟨x.num.toNat, by omega⟩
  rw [hN, ← Int.natCast_mul, Int.toNat_natCast, Int.toNat_natCast]
 have eb : x.num * (x.den : Int) ≤ 100000000000000000 := by
  obtain ⟨N, hN⟩ : ∃ N : Nat, x.num = N := ⟨x.num.toNat, by omega⟩
  rw [hN, Int.natAbs_natCast] at b3
  rw [hN, ← Int.natCast_mul]
  omega
 rw [i1.2, i2.2, em, l1, l2, z1]
 refine zX.2 ⟨fun _ => ⟨hc, h300, ?_⟩, fun c => by rw [c1] at c; cases c⟩
 show yD .i64 _ ∧ _
 refine ⟨by simp only [yD]; omega, fun _ => ⟨i1.1, by omega, i2.1, by omega, hn, ⟨by omega, by omega⟩, eb, rfl, ?_, ?_⟩, fun h => by omega⟩
 ·rw [Int.toNat_natCast, Yg _ hd]; rfl
 ·exact (w5 _).symm
theorem KG {G : List (Nat × Obj)} (hG : zO G) (q : List UInt8) (hr : lP q) : zu Tryz.prog G 83 [.str q] (.tup 3 (zw [.str (zW (nK (zo q))), .str (zW (nL (zo q))), .i 0])) :=
 zv (T := Gb G) (an := .auto) mixed (nZ hG) (Eq.mp (by kernel_rfl) (NR G q hr))
theorem PT {G : List (Nat × Obj)} (hG : zO G) : zP Tryz.prog G 83 uf := by
 intro xs ps r h hp
 unfold uf at h
 split at h
 ·skip
  rename_i q
  cases h
  obtain ⟨q0, -⟩ := Zo hp
  exact weaken (ys := [.str q]) ⟨zV _, trivial⟩ (KG hG q q0)
 ·cases h
noncomputable def GF (G : List (Nat × Obj)) : Tb := (((KR G).plus 123 uJ).plus 166 uL).plus 117 (IE (.tup 2 (zw [.str [], .i 0]))) |>.plus 125 (IE (.str []))
theorem oL {G : List (Nat × Obj)} (hG : zO G) : zz Tryz.prog (GF G) := zz.plus (zz.plus (zz.plus (zz.plus (YF hG) (zP.mono pC)) (zP.mono P2)) (Pb _)) (Pb _)
def pq : List AV → Option (List zN × AV)
 | [.str m] => some ([.p (ZY m = true), .p (m.length ≤ 17), .p (0 ≤ zY m)], .tup 2 (zw [.str (Lib.itoa (yC (zY m).toNat : Int)), .b (Nat.beq (yC (zY m).toNat * yC (zY m).toNat) (zY m).toNat)]))
 | _ => none
theorem Lw (G : List (Nat × Obj)) (m : List UInt8) (hi : ZY m = true) (hl : m.length ≤ 17) (h0 : 0 ≤ zY m) :
 Zy [AV.str m] → ZY m = true ∧ lN m ≤ 17 ∧ (iZ ≤ zY m ∧ zY m ≤ (1000000000000000000 : Int)) ∧ (iN ≤ (cI (yC (Int.toNat (zY m)))) ∧ (cI (yC (Int.toNat (zY m)))) ≤ iX) ∧ bF (DB.db (yD .i64 ((cI (yC (Int.toNat (zY m)))) * (cI (yC (Int.toNat (zY m))))))) (j2 ∧ (True ∧ Lib.itoa (cI (yC (Int.toNat (zY m)))) = Lib.itoa (cI (yC (Int.toNat (zY m))))) ∧ ((cI (yC (Int.toNat (zY m)))) * (cI (yC (Int.toNat (zY m)))) == zY m) = Nat.beq (yC
 (Int.toNat (zY m)) * yC (Int.toNat (zY m))) (Int.toNat (zY m))) := by
 delta bF cI j2 lN iZ iX iN
 intro hb
 simp only [sS, dS]
 obtain ⟨m', hm⟩ : ∃ k : Nat, zY m = k := ⟨(zY m).toNat, by omega⟩
 have hb2 : (zY m).natAbs < 10 ^ 17 := Nat.lt_of_lt_of_le (OG hi) (Nat.pow_le_pow_right (by omega) hl)
 rw [show 10 ^ 17 = 100000000000000000 from by decide] at hb2
 rw [hm, Int.natAbs_natCast] at hb2
 rw [hm, Int.toNat_natCast]
 obtain ⟨s1, s2⟩ := xn (n := m') (by omega)
 have hr : yC m' < 1000000000 := xj (by omega)
 refine ⟨hi, hl, ⟨by omega, by omega⟩, ⟨by omega, by omega⟩, by rw [← Int.natCast_mul]; simp only [yD]; omega, rfl, ?_⟩
 rw [← Int.natCast_mul, Bool.eq_iff_iff, beq_iff_eq, Nat.beq_eq]
 omega
theorem Ip {G : List (Nat × Obj)} (hG : zO G) (m : List UInt8) (hi : ZY m = true) (hl : m.length ≤ 17) (h0 : 0 ≤ zY m) : zu Tryz.prog G 127 [.str m] (.tup 2 (zw [.str (Lib.itoa (yC (zY m).toNat : Int)), .b (Nat.beq (yC (zY m).toNat * yC (zY m).toNat) (zY m).toNat)])) :=
 zv (T := GF G) (an := .auto) mixed (oL hG) (Eq.mp (by kernel_rfl) (Lw G m hi hl h0))
theorem Jp {G : List (Nat × Obj)} (hG : zO G) : zP Tryz.prog G 127 pq := by
 intro xs ps r h hp
 unfold pq at h
 split at h
 ·skip
  rename_i m
  cases h
  obtain ⟨q0, q1, q2, -⟩ := Zo hp
  exact weaken (ys := [.str m]) ⟨zV _, trivial⟩ (Ip hG m q0 q1 q2)
 ·cases h
structure jo (p q : zj) : Prop where
 fp : oY p
 fq : oY q
 pos : 0 < zo q
 num : XZ (zo p / zo q).num ≤ 17
 den : Lib.nDigits (zo p / zo q).den ≤ 17
noncomputable def Gs (G : List (Nat × Obj)) : Tb := ((((Xh G).plus 110 PR).plus 112 RR).plus 66 SU).plus 127 pq |>.body Tryz.prog [(111, .auto), (128, .auto)] |>.body Tryz.prog [(111, .auto)]
theorem OS {G : List (Nat × Obj)} (hG : zO G) : zz Tryz.prog (Gs G) := zz.body mixed (zz.body mixed (zz.plus (zz.plus (zz.plus (zz.plus zq (jn hG)) (mb hG)) (QE hG)) (Jp hG)) _) _
def Ui : List AV → Option (List zN × AV)
 | [.str p, .str q] => some ([.p (jo p q)], .tup 3 (zw [.str (bif yH (zo p) (zo q) then zW (wh (zo p) (zo q)) else []), .b (yH (zo p) (zo q)), .i 0]))
 | _ => none
theorem lA (G : List (Nat × Obj)) (p : List UInt8) (q : List UInt8) (hr : jo p q) :
 let q1 := ((True ∧ bA #[] = bif yH (zo p) (zo q) then zW (wh (zo p) (zo q)) else []) ∧ false = yH (zo p) (zo q)); let q2 := (Lib.itoa (Rat.num (zo (zW (zo p / zo q))))); let q3 := (Lib.itoa (cI (Rat.den (zo (zW (zo p / zo q)))))); let q5 := (Int.toNat (zY q2)); let q4 := (yC q5 * yC q5); let q6 := (Int.toNat (zY q3)); let q7 := (Lib.itoa (cI (yC q5))); let q8 := (Lib.itoa (cI (yC q6))); Zy [AV.str p, AV.str q] → bF (Zk (AV.str p) && Zk (AV.str q) && Zk (AV.str p) && Zk (AV.str q) && AV.bytes
 (AV.str p) == AV.bytes (AV.str p) && AV.bytes (AV.str q) == AV.bytes (AV.str q)) (oY (AV.bytes (AV.str p)) ∧ oY (AV.bytes (AV.str q)) ∧ zZ (q == bA #[(48 : UInt8)]) (3 = lN [AV.junk, AV.junk, AV.junk] ∧ q1 ∧ kI ∧ (12 : Int) = iZ) (X6 p q ∧ YZ 300 (zW (zo p / zo q)) ∧ ZY q2 = true ∧ lN q2 ≤ 17 ∧ iZ ≤ zY q2 ∧ ZY q3 = true ∧ lN q3 ≤ 17 ∧ iZ ≤ zY q3 ∧ bF (!zr false !Nat.beq q4 q5 || zr false !Nat.beq q4 q5) (zZ (!!!Nat.beq q4 q5 || zr false !Nat.beq q4 q5)
 (zZ (bif !Nat.beq q4 q5 then true else !Nat.beq (yC q6 * yC q6) q6) (3 = lN [AV.junk, AV.junk, AV.junk] ∧ q1 ∧ kI ∧ iZ = iZ) (X6 q7 q8 ∧ 3 = lN [AV.junk, AV.junk, AV.junk] ∧ ((True ∧ zW (zo q7 / zo q8) = bif yH (zo p) (zo q) then zW (wh (zo p) (zo q)) else []) ∧ true = yH (zo p) (zo q)) ∧ kI ∧ iZ = iZ)) False))) := by
 delta bF bA cI kI lN iZ
 dsimp only
 intro hb
 simp only [sS, dS]
 have c1 : (Zk (AV.str p) && Zk (AV.str q) && Zk (AV.str p) && Zk (AV.str q) && (AV.str p).bytes == (AV.str p).bytes && (AV.str q).bytes == (AV.str q).bytes) = true := by
  show (true && true && true && true && (p == p) && (q == q)) = true
  simp
 have hz : (q == [48]) = false := beq_eq_false_iff_ne.2 fun e => by
  have := hr.pos
  rw [e] at this
  exact absurd this (by decide +kernel)
 have hne : zo q ≠ 0 := Rat.ne_of_gt hr.pos
 have hb1 : bq 180 (zo p / zo q) := by
  rw [Rat.div_def]
  have h2 := hr.fq.ok.bq
  refine Sl (j := 90) (k := 90) hr.fp.ok.bq ⟨?_, ?_⟩
  ·rw [Rat.num_inv, Int.natAbs_mul, Int.natAbs_natCast]
   have hs : (zo q).num.sign.natAbs ≤ 1 := by rw [Int.natAbs_sign]; split <;> omega
   exact Nat.lt_of_le_of_lt (Nat.mul_le_mul_right _ hs) (by rw [Nat.one_mul]; exact h2.den)
  ·rw [Rat.den_inv, if_neg fun e => hne (Rat.num_eq_zero.1 e)]
   exact h2.num
 have hX : 0 ≤ zo p / zo q := by
  rw [Rat.div_def]
  exact Rat.mul_nonneg hr.fp.pos (Rat.le_of_lt (Rat.inv_pos.2 hr.pos))
 have hn := hr.num
 have hd := hr.den
 have hv : X6 p q := ⟨hr.fp.ok.mono (by decide), hr.fq.ok.mono (by decide), hne⟩
 have eB : yH (zo p) (zo q) = hJ (zo p / zo q) := rfl
 have eV : wh (zo p) (zo q) = Hb (zo p / zo q) := rfl
 rw [eB, eV, hz]
 refine zX.2 ⟨fun _ => ⟨hr.fp, hr.fq, zX.2 ⟨fun c => (by cases c), fun _ => ⟨hv, (Zh (by decide) (by decide)).2 (hb1.mono (by decide)), ?_⟩⟩⟩, fun c => by rw [c1] at c; cases c⟩
 simp only [zS, (zb _).2]
 generalize zo p / zo q = x at *
 have hx := Rat.num_nonneg.2 hX
 have b1 := Wz x.num
 have e2 : XZ (x.den : Int) = Lib.nDigits x.den := by unfold XZ; rw [Int.natAbs_natCast]
 have b2 := Wz (x.den : Int)
 rw [e2, Int.natAbs_natCast] at b2
 have k1 : x.num.natAbs < 10 ^ 17 := Nat.lt_of_lt_of_le b1 (Nat.pow_le_pow_right (by omega) hn)
 have k2 : x.den < 10 ^ 17 := Nat.lt_of_lt_of_le b2 (Nat.pow_le_pow_right (by omega) hd)
 have k3 : (10 : Nat) ^ 17 = 100000000000000000 := by decide
 rw [k3] at k1 k2
 have l1 : (Lib.itoa x.num).length ≤ 17 := by rw [Xw, if_neg (by omega)]; omega
 have l2 : (Lib.itoa (x.den : Int)).length ≤ 17 := by rw [Go.Ar.yY, Lib.decDigits_length]; exact hd
 obtain ⟨N, hN⟩ : ∃ N : Nat, x.num = N := ⟨x.num.toNat, by omega⟩
 have dp := x.den_pos
 refine ⟨(zb _).1, l1, hx, (zb _).1, l2, by omega, ?_⟩
 unfold hJ Hb
 rw [Int.toNat_natCast]
 obtain ⟨s1, s2⟩ := xn (n := x.num.toNat) (by omega)
 obtain ⟨t1, t2⟩ := xn (n := x.den) (by omega)
 have r1 : yC x.num.toNat < 1000000000 := xj (by omega)
 have r2 : yC x.den < 1000000000 := xj (by omega)
 have oi : ∀ a : Nat, a < 1000000000 → YZ 140 (Lib.itoa (a : Int)) := fun a ha => by
  rw [← w5]
  refine (Zh (by decide) (by decide)).2 (bq.mono (j := 9) ⟨?_, ?_⟩ (by decide))
  ·rw [Rat.num_natCast, Int.natAbs_natCast]; exact ha
  ·rw [Rat.den_natCast]; decide
 have qi : ∀ a : Nat, zo (Lib.itoa (a : Int)) = (a : Rat) := fun a => by rw [← w5, zS]
 rw [qi, qi]
 refine zX.2 ⟨fun c => ?_, fun c => ?_⟩
 ·have e : (Nat.beq (yC x.num.toNat * yC x.num.toNat) x.num.toNat && Nat.beq (yC x.den * yC x.den) x.den) = false := by
   cases h1 : Nat.beq (yC x.num.toNat * yC x.num.toNat) x.num.toNat with
   | false => rfl
   | true => rw [h1] at c; simpa using c
  rw [e]
  exact ⟨rfl, rfl, rfl⟩
 ·rw [Bool.or_eq_false_iff, Bool.not_eq_false', Bool.not_eq_false'] at c
  rw [c.1, c.2]
  have hd0 : yC x.den ≠ 0 := fun e => by have := (Nat.beq_eq ▸ c.2 : yC x.den * yC x.den = x.den); rw [e] at this; omega
  refine ⟨⟨oi _ r1, oi _ r2, ?_⟩, rfl, ?_, rfl⟩
  ·rw [qi]
   exact fun e => hd0 (Rat.natCast_eq_zero_iff.1 e)
  ·show zW _ = zW _
   rw [Rat.mkRat_eq_div]; rfl
theorem iP {G : List (Nat × Obj)} (hG : zO G) (p : List UInt8) (q : List UInt8) (hr : jo p q) : zu Tryz.prog G 74 [.str p, .str q] (.tup 3 (zw [.str (bif yH (zo p) (zo q) then zW (wh (zo p) (zo q)) else []), .b (yH (zo p) (zo q)), .i 0])) :=
 zv (T := Gs G) (an := .auto) mixed (OS hG) (Eq.mp (by kernel_rfl) (lA G p q hr))
theorem Qe {G : List (Nat × Obj)} (hG : zO G) : zP Tryz.prog G 74 Ui := by
 intro xs ps r h hp
 unfold Ui at h
 split at h
 ·skip
  rename_i p q
  cases h
  obtain ⟨q0, -⟩ := Zo hp
  exact weaken (ys := [.str p, .str q]) ⟨zV _, zV _, trivial⟩ (iP hG p q q0)
 ·cases h
end Go.Te

namespace Go.Te
open Go Go.Sx Go.Proofs Go.Ar
set_option maxRecDepth 100000
set_option maxHeartbeats 4000000
def lO (s : zj) : Bool := zW (zo s) == s
theorem uh (q : Rat) : lO (zW q) = true := by unfold lO; rw [zS]; exact beq_self_eq_true _
theorem Mx {x : AV} (h : (Zk x && lO (AV.bytes x)) = true) : zd x (.str (zW (zo (AV.bytes x)))) := by
 rw [Bool.and_eq_true] at h
 unfold lO at h
 rw [eq_of_beq h.2]
 exact ZT (Xq h.1)
instance : zR Tm := ⟨2, ⟨0, 0⟩, fun t => zw [.str (zW t.c), .str (zW t.q)], fun cs => ⟨zo (AV.bytes (cs 0)), zo (AV.bytes (cs 1))⟩, fun cs => (Zk (cs 0) && lO (AV.bytes (cs 0))) && (Zk (cs 1) && lO (AV.bytes (cs 1))), fun cs h j hj => by
 rw [Bool.and_eq_true] at h
 match j, hj with
 | 0, _ => exact Mx h.1
 | 1, _ => exact Mx h.2⟩
instance : Yy Tm := ⟨fun c => by
 show (⟨zo (zW c.c), zo (zW c.q)⟩ : Tm) = c
 rw [zS, zS], fun c => by
 show ((true && lO (zW c.c)) && (true && lO (zW c.q))) = true
 rw [uh, uh]; rfl⟩
theorem Zu (c q : Rat) : yR (AV.agg 2 (zw [AV.str (zW c), AV.str (zW q)])) = (⟨c, q⟩ : Tm) := Wa (⟨c, q⟩ : Tm)
theorem za (c q : Rat) : yp Tm (AV.agg 2 (zw [AV.str (zW c), AV.str (zW q)])) = true := X0 (⟨c, q⟩ : Tm)
def WT (x : Rat) : Int := if (Lib.nDigits x.den : Int) > (XZ x.num : Int) then (Lib.nDigits x.den : Int) else (XZ x.num : Int)
theorem vk {x : Rat} {k : Nat} (hk : 0 < k) (h : bq k x) : WT x ≤ k := by
 have a1 : XZ x.num ≤ k := xf hk h.num
 have a2 : Lib.nDigits x.den ≤ k := (Zw hk).2 h.den
 unfold WT
 split <;> omega
noncomputable def GB (G : List (Nat × Obj)) : Tb := (((Xh G).plus 95 (Yl fun s => .str (zQ s))).body Tryz.prog [(86, .auto)]).plus 85 SR
theorem nz {G : List (Nat × Obj)} (hG : zO G) : zz Tryz.prog (GB G) := zz.plus (zz.body mixed (zz.plus zq (zP.mono vI)) _) (pX hG)
def uk : List AV → Option (List zN × AV)
 | [.str a] => some ([.p (YZ 300 a)], .i (WT (zo a)))
 | _ => none
theorem me (G : List (Nat × Obj)) (a : List UInt8) (hr : YZ 300 a) :
 let q1 := (↑(lN (zQ (Lib.itoa (cI (Rat.den (zo a)))))) : Int); let q2 := (lZ (zQ (Lib.itoa (Rat.num (zo a))))); Zy [AV.str a] → YZ 300 a ∧ kI ∧ (if q1 > q2 then q1 else q2) = WT (zo a) := by
 delta cI kI lZ lN
 dsimp only
 intro hb
 simp only [sS, dS]
 refine ⟨hr, ?_⟩
 rw [se, se]
 have e2 : XZ ((zo a).den : Int) = Lib.nDigits (zo a).den := by unfold XZ; rw [Int.natAbs_natCast]
 rw [e2]; rfl
theorem l6 {G : List (Nat × Obj)} (hG : zO G) (a : List UInt8) (hr : YZ 300 a) : zu Tryz.prog G 47 [.str a] (.i (WT (zo a))) :=
 zv (T := GB G) (an := .auto) mixed (nz hG) (Eq.mp (by kernel_rfl) (me G a hr))
theorem pA {G : List (Nat × Obj)} (hG : zO G) : zP Tryz.prog G 47 uk := by
 intro xs ps r h hp
 unfold uk at h
 split at h
 ·skip
  rename_i a
  cases h
  obtain ⟨q0, -⟩ := Zo hp
  exact weaken (ys := [.str a]) ⟨zV _, trivial⟩ (l6 hG a q0)
 ·cases h
structure Ho (x y : Tm) : Prop where
 ra : jo (zW y.q) (zW x.q)
 rel : yH y.q x.q = true
 cx : bq 100 x.c
 cy : bq 100 y.c
theorem kH {p q : Rat} (h1 : XZ (p / q).num ≤ 17) (h2 : Lib.nDigits (p / q).den ≤ 17) (h0 : 0 ≤ p / q) : bq 9 (wh p q) := by
 unfold wh Hb
 generalize p / q = x at *
 have hx := Rat.num_nonneg.2 h0
 have b1 := Wz x.num
 have e2 : XZ (x.den : Int) = Lib.nDigits x.den := by unfold XZ; rw [Int.natAbs_natCast]
 have b2 := Wz (x.den : Int)
 rw [e2, Int.natAbs_natCast] at b2
 have k1 : x.num.natAbs < 10 ^ 17 := Nat.lt_of_lt_of_le b1 (Nat.pow_le_pow_right (by omega) h1)
 have k2 : x.den < 10 ^ 17 := Nat.lt_of_lt_of_le b2 (Nat.pow_le_pow_right (by omega) h2)
 have k3 : (10 : Nat) ^ 17 = 100000000000000000 := by decide
 have k4 : (10 : Nat) ^ 9 = 1000000000 := by decide
 rw [k3] at k1 k2
 obtain ⟨s1, s2⟩ := xn (n := x.num.toNat) (by omega)
 obtain ⟨t1, t2⟩ := xn (n := x.den) (by omega)
 have r1 : yC x.num.toNat < 1000000000 := xj (by omega)
 have r2 : yC x.den < 1000000000 := xj (by omega)
 have hd0 : yC x.den ≠ 0 := fun e => by rw [e] at t2; have := x.den_pos; omega
 exact UN (by omega) (by rw [Int.natAbs_natCast, k4]; exact r1) (by rw [k4]; exact r2)
noncomputable def GM (G : List (Nat × Obj)) : Tb := (((Xh G).plus 74 Ui).plus 40 vS).plus 30 sj
theorem P8 {G : List (Nat × Obj)} (hG : zO G) : zz Tryz.prog (GM G) := zz.plus (zz.plus (zz.plus zq (Qe hG)) (Ve hG)) (Qh hG)
def rt : List AV → Option (List zN × AV)
 | [x_x, x_y] => some ([.b (yp Tm x_x), .b (yp Tm x_y), .p (Ho (yR (α := Tm) x_x) (yR (α := Tm) x_y))], .tup 2 (zw [xz (⟨(yR (α := Tm) x_x).c + (yR (α := Tm) x_y).c * wh (yR (α := Tm) x_y).q (yR (α := Tm) x_x).q, (yR (α := Tm) x_x).q⟩ : Tm), .i 0]))
 | _ => none
theorem M8 (G : List (Nat × Obj)) (x : Tm) (y : Tm) (hr : Ho x y) :
 let q1 := (bif yH (zo (zW (Tm.q y))) (zo (zW (Tm.q x))) then zW (wh (zo (zW (Tm.q y))) (zo (zW (Tm.q x)))) else []); let q2 := (zW (zo (zW (Tm.c y)) * zo q1)); let q3 := (Tm.mk (Tm.c x + Tm.c y * wh (Tm.q y) (Tm.q x)) (Tm.q x)); Zy [AV.agg 2 (zR.enc x), AV.agg 2 (zR.enc y)] → jo (zW (Tm.q y)) (zW (Tm.q x)) ∧ YM 140 (zW (Tm.c y)) q1 ∧ YM 140 (zW (Tm.c x)) q2 ∧ j2 ∧ (True ∧ 2 = 2 ∧ zW (zo (zW (Tm.c x)) + zo q2) = zW (Tm.c q3) ∧ zW (Tm.q x) = zW (Tm.q q3)) ∧ kI ∧ iZ = iZ := by
 delta kI j2 iZ
 dsimp only
 intro hb
 simp only [sS, dS, zS]
 have hp := hr.ra.fp
 have hx := hr.ra.fq.pos
 have h1 := hr.ra.num
 have h2 := hr.ra.den
 have h3 := hr.ra.pos
 have h4 := hp.pos
 rw [zS] at h3 h4
 rw [zS, zS] at h1 h2
 have hX : 0 ≤ y.q / x.q := by
  rw [Rat.div_def]
  exact Rat.mul_nonneg h4 (Rat.le_of_lt (Rat.inv_pos.2 h3))
 have hv := kH h1 h2 hX
 have hm := Sl hr.cy hv
 rw [hr.rel]
 simp only [cond_true, zS]
 exact ⟨hr.ra, ⟨(Zh (by decide) (by decide)).2 (hr.cy.mono (by decide)), (Zh (by decide) (by decide)).2 (hv.mono (by decide))⟩, ⟨(Zh (by decide) (by decide)).2 (hr.cx.mono (by decide)), (Zh (by decide) (by decide)).2 (hm.mono (by decide))⟩, rfl, trivial⟩
theorem Ka {G : List (Nat × Obj)} (hG : zO G) (x : Tm) (y : Tm) (hr : Ho x y) : zu Tryz.prog G 84 [xz x, xz y] (.tup 2 (zw [xz (⟨x.c + y.c * wh y.q x.q, x.q⟩ : Tm), .i 0])) :=
 zv (T := GM G) (an := .auto) mixed (P8 hG) (Eq.mp (by kernel_rfl) (M8 G x y hr))
theorem li {G : List (Nat × Obj)} (hG : zO G) : zP Tryz.prog G 84 rt := by
 intro xs ps r h hp
 unfold rt at h
 split at h
 ·skip
  rename_i x_x x_y
  cases h
  obtain ⟨q0, q1, q2, -⟩ := Zo hp
  exact weaken (ys := [xz (yR (α := Tm) x_x), xz (yR (α := Tm) x_y)]) ⟨Zs q0, Zs q1, trivial⟩ (Ka hG (yR (α := Tm) x_x) (yR (α := Tm) x_y) q2)
 ·cases h
end Go.Te

namespace Go.Proofs
open Go.Shelf
def Tryz.pdqCut_ren : Go.Shelf.Ren := ⟨fun | 14 => 87 | 20 => 129 | 21 => 130 | 22 => 131 | 23 => 132 | 24 => 133 | 25 => 134 | 26 => 135 | 27 => 136 | 46 => 169 | 47 => 170 | 48 => 171 | 49 => 172 | 50 => 173 | 15 => 88 | 57 => 193 | 28 => 137 | 29 => 138 | n => n, fun | 24 => 49 | 22 => 25 | 3 => 3 | 25 => 82 | 4 => 4 | 0 => 0 | 46 => 178 | 45 => 177 | 50 => 166 | 66 => 221 | 39 => 127 | 55 => 160 | 70 => 225 | 76 => 241 | 77 => 234 | 53 => 184 | 5 => 5 | 9 => 9 | n => n, fun | n => n⟩
theorem Tryz.pdqCut : Go.Proofs.SlLaysF0.n14 Tryz.prog Tryz.pdqCut_ren := {
 mixed := by kernel_rfl
 f14 := ⟨Tryz.f87.name, by decide, Tryz.func87.trans (congrArg some (by kernel_rfl))⟩
 f15 := Tryz.func88.trans (congrArg some (by kernel_rfl))
 f20 := ⟨Tryz.f129.name, by decide, Tryz.func129.trans (congrArg some (by kernel_rfl))⟩
 f21 := ⟨Tryz.f130.name, by decide, Tryz.func130.trans (congrArg some (by kernel_rfl))⟩
 f22 := ⟨Tryz.f131.name, by decide, Tryz.func131.trans (congrArg some (by kernel_rfl))⟩
 f23 := ⟨Tryz.f132.name, by decide, Tryz.func132.trans (congrArg some (by kernel_rfl))⟩
 f24 := ⟨Tryz.f133.name, by decide, Tryz.func133.trans (congrArg some (by kernel_rfl))⟩
 f25 := ⟨Tryz.f134.name, by decide, Tryz.func134.trans (congrArg some (by kernel_rfl))⟩
 f26 := ⟨Tryz.f135.name, by decide, Tryz.func135.trans (congrArg some (by kernel_rfl))⟩
 f27 := ⟨Tryz.f136.name, by decide, Tryz.func136.trans (congrArg some (by kernel_rfl))⟩
 f28 := Tryz.func137.trans (congrArg some (by kernel_rfl))
 f29 := Tryz.func138.trans (congrArg some (by kernel_rfl))
 f46 := ⟨Tryz.f169.name, by decide, Tryz.func169.trans (congrArg some (by kernel_rfl))⟩
 f47 := Tryz.func170.trans (congrArg some (by kernel_rfl))
 f48 := Tryz.func171.trans (congrArg some (by kernel_rfl))
 f49 := ⟨Tryz.f172.name, by decide, Tryz.func172.trans (congrArg some (by kernel_rfl))⟩
 f50 := ⟨Tryz.f173.name, by decide, Tryz.func173.trans (congrArg some (by kernel_rfl))⟩
 f57 := ⟨Tryz.f193.name, by decide, Tryz.func193.trans (congrArg some (by kernel_rfl))⟩
 t0 := Tryz.underlying0
 a0 := Tryz.isAgg0
 z0 := Tryz.sizeOf0
 v0 := Tryz.zeroValue0
 t3 := Tryz.underlying3
 a3 := Tryz.isAgg3
 z3 := Tryz.sizeOf3
 v3 := Tryz.zeroValue3
 t4 := Tryz.underlying4
 a4 := Tryz.isAgg4
 z4 := Tryz.sizeOf4
 v4 := Tryz.zeroValue4
 t5 := Tryz.underlying5
 a5 := Tryz.isAgg5
 z5 := Tryz.sizeOf5
 v5 := Tryz.zeroValue5
 t9 := Tryz.underlying9
 a9 := Tryz.isAgg9
 z9 := Tryz.sizeOf9
 v9 := Tryz.zeroValue9
 t22 := Tryz.underlying25
 a22 := Tryz.isAgg25
 z22 := Tryz.sizeOf25
 v22 := Tryz.zeroValue25
 t25 := Tryz.underlying82
 a25 := Tryz.isAgg82
 z25 := Tryz.sizeOf82
 v25 := Tryz.zeroValue82
 t39 := Tryz.underlying127
 a39 := Tryz.isAgg127
 z39 := Tryz.sizeOf127
 v39 := Tryz.zeroValue127
 t45 := Tryz.underlying177
 a45 := Tryz.isAgg177
 z45 := Tryz.sizeOf177
 v45 := Tryz.zeroValue177
 t46 := Tryz.underlying178
 a46 := Tryz.isAgg178
 z46 := Tryz.sizeOf178
 v46 := Tryz.zeroValue178
 t50 := Tryz.underlying166
 a50 := Tryz.isAgg166
 z50 := Tryz.sizeOf166
 v50 := Tryz.zeroValue166
 t53 := Tryz.underlying184
 a53 := Tryz.isAgg184
 z53 := Tryz.sizeOf184
 v53 := Tryz.zeroValue184
 t55 := Tryz.underlying160
 a55 := Tryz.isAgg160
 z55 := Tryz.sizeOf160
 v55 := Tryz.zeroValue160
 t66 := Tryz.underlying221
 a66 := Tryz.isAgg221
 z66 := Tryz.sizeOf221
 v66 := Tryz.zeroValue221
 t70 := Tryz.underlying225
 a70 := Tryz.isAgg225
 z70 := Tryz.sizeOf225
 v70 := Tryz.zeroValue225
 t76 := Tryz.underlying241
 a76 := Tryz.isAgg241
 z76 := Tryz.sizeOf241
 v76 := Tryz.zeroValue241
 t77 := Tryz.underlying234
 a77 := Tryz.isAgg234
 z77 := Tryz.sizeOf234
 v77 := Tryz.zeroValue234 }
end Go.Proofs
namespace Go.Te
open Go Go.Sx Go.Proofs Go.RowKit Go.Shelf Go.Sort
set_option maxHeartbeats 4000000
set_option maxRecDepth 100000
theorem Pz (n : Nat) (hn : n < 4611686018427387904) (w : World) : Calls Tryz.prog 88 #[.int .u64 (n : Int)] w fun e w' => e = .returned (.int .i64 (Lib.bitLen n : Nat)) ∧ w' = w := by
 have h := Tryz.bits_Len (n : Int) w (by omega) (by omega)
 rwa [Int.toNat_natCast] at h
theorem Me : RZ Tryz.prog 48 2 := by
 intro enc hk h1 cf hO g cb blk off cap d w eg hcmp hH hblk hsz
 have e14 : ∀ args w, (callFunc 87 args).run Tryz.prog w = .ok (.enter 87 args) w := enters_of Tryz.func87 (by kernel_rfl) rfl
 have e15 : ∀ args w, (callFunc 88 args).run Tryz.prog w = .ok (.enter 88 args) w := enters_of Tryz.func88 (by kernel_rfl) rfl
 have hlim : Lib.bitLen d.size < 4611686018427387904 := Nat.lt_of_le_of_lt (Lib.bitLen_le d.size 62 (by omega) (by omega)) (by omega)
 have hp : Calls Tryz.prog 87 _ _ _ := AnyQ.pdqsortCmpFunc_all Tryz.pdqCut 2 Tryz.isAgg49 Tryz.sizeOf49 enc cf g cb hO blk off cap d w eg hcmp ⟨hk, h1, hH, hblk⟩ (d.size + 1) 0 d.size (Lib.bitLen d.size) d w (by omega) rfl (SWK.start hH) (Nat.zero_le _) (Nat.le_refl _) hsz hlim (Or.inl rfl)
 have hl := Pz d.size hsz w
 have wr : IntKind.u64.wrap (d.size : Int) = d.size := by simp [IntKind.wrap, IntKind.bits, IntKind.signed]; omega
 have h := pdq_sorts (ltOf cf) hO d 0 d.size (Lib.bitLen d.size) true true (Nat.zero_le _) (Nat.le_refl _) (Or.inl rfl)
 have mixed : Tryz.prog.follows .mixedOrders = true := by kernel_rfl
 clear hH hcmp hk h1
 go_enter Tryz.func48, Tryz.ntmps48
 go_wp2_with (first | (go_at_fn 88; refine hl.mono ?_; rintro e w' ⟨rfl, rfl⟩) | (go_at_fn 87; refine hp.mono ?_; rintro e w' ⟨rfl, n, os, rfl⟩))
 go_end0
 exact ⟨rfl, _, n, os, h.1, h.2, rfl⟩
theorem ni : qR Tryz.prog 48 := by
 intro p cap fv w
 have e14 : ∀ args w, (callFunc 87 args).run Tryz.prog w = .ok (.enter 87 args) w := enters_of Tryz.func87 (by kernel_rfl) rfl
 have e15 : ∀ args w, (callFunc 88 args).run Tryz.prog w = .ok (.enter 88 args) w := enters_of Tryz.func88 (by kernel_rfl) rfl
 have hp : ∀ QU W, Calls Tryz.prog 87 #[.slice p 0 cap, .int .i64 0, .int .i64 0, .int .i64 QU, fv] W fun e w' => e = .returned (.tuple #[]) ∧ w' = W := fun QU W => AnyF.pdqsortCmpFunc_none Tryz.pdqCut p cap QU fv W
 have hl : ∀ W, Calls Tryz.prog 88 #[.int .u64 0] W fun e w' => e = .returned (.int .i64 (Lib.bitLen 0 : Nat)) ∧ w' = W := fun W => Pz 0 (by omega) W
 have mixed : Tryz.prog.follows .mixedOrders = true := by kernel_rfl
 go_enter Tryz.func48, Tryz.ntmps48
 go_wp2_with (first | (go_at_fn 88; refine (hl _).mono ?_; rintro e w' ⟨rfl, rfl⟩) | (go_at_fn 87; refine (hp _ _).mono ?_; rintro e w' ⟨rfl, rfl⟩))
 go_end0
 exact ⟨rfl, rfl⟩
end Go.Te

namespace Go.Te
open Go Go.Sx Go.Proofs Go.Ar Go.RowKit Go.Shelf
set_option maxRecDepth 100000
set_option maxHeartbeats 4000000
abbrev RM : Nat := 99999999
theorem lD {a : zj} (h : zH a = 0) (hn : (zK a).natAbs ≤ 99999999) (hd : zn a ≤ 99999999) : z8 a = true := by
 obtain ⟨_, o2, _, _, o5, _, _⟩ := YE a
 have hf := (Zq.1 h).1
 have hp := yG hf
 have e : a = Yd (zK a) (zn a) := (wV hf).symm
 obtain ⟨s1, s2, s3, s4, s5⟩ := Wp (zK a) hp
 rw [← e] at s4 s5
 have a1 : XZ (zK a) ≤ 8 := xf (by decide) (Nat.lt_of_le_of_lt hn (by decide))
 have a2 : Lib.nDigits (zn a) ≤ 8 := (Zw (by decide)).2 (Nat.lt_of_le_of_lt hd (by decide))
 unfold z8
 rw [h, Bool.and_eq_true, Bool.and_eq_true, Zx, Zx]
 have q1 : (zm (zQ a)).length ≤ 8 := by rw [← o5, s4]; exact a1
 have q2 : (zB (zQ a)).length ≤ 8 := by rw [← o2, s5]; split <;> omega
 exact ⟨⟨rfl, by omega⟩, by omega⟩
theorem IX {a : zj} (h : z8 a = true) : bq 9 (zo a) := by
 obtain ⟨h1, h2, h3⟩ := yh h
 have k : (10 : Nat) ^ 9 = 1000000000 := by decide
 exact ⟨by rw [(Z3 h1).1, k]; omega, by rw [(Z3 h1).2, k]; omega⟩
def Sp : List AV → Option (List zN × AV)
 | [.str a] => some ([.p (z8 a = true)], .tup 2 (zw [.agg 2 (zw [.i (zK a), .i (zn a : Int)]), .b true]))
 | _ => none
theorem LZ : zP Tryz.prog [] 55 Sp := by
 intro xs ps r h hp
 unfold Sp at h
 split at h
 ·rename_i a
  cases h
  have q : z8 a = true := hp _ List.mem_cons_self
  have := N4 a (by have := (yh q).1; exact YR (k := 9) ⟨this, IX q⟩ (by decide) (by decide))
  rw [q] at this
  exact this
 ·cases h
def QL : List AV → Option (List zN × AV)
 | [.str a, .str b] => some ([.p (z8 a = true), .p (z8 b = true)], .tup 2 (zw [.i (xM (zK a * (zn b : Int)) (zK b * (zn a : Int))), .i 0]))
 | _ => none
theorem kz (a : List UInt8) (b : List UInt8) (ha : z8 a = true) (hc : z8 b = true) :
 Zy [AV.str a, AV.str b] → z8 a = true ∧ z8 b = true ∧ bF (dK (zK a * (cI (zn b)))) (bF (dK (zK b * (cI (zn a)))) (j2 ∧ (True ∧ kI ∧ xM (zK a * (cI (zn b))) (zK b * (cI (zn a))) = xM (zK a * (cI (zn b))) (zK b * (cI (zn a)))) ∧ kI ∧ iZ = iZ)) := by
 delta bF dK cI kI j2 iZ
 intro hb
 simp only [sS, Zu, za, zS, dS]
 obtain ⟨a1, a2, a3⟩ := yh ha
 obtain ⟨b1, b2, b3⟩ := yh hc
 have m1 := Yq (a := zK a) (b := (zn b : Int)) ⟨by omega, by omega⟩ ⟨by omega, by omega⟩
 have m2 := Yq (a := zK b) (b := (zn a : Int)) ⟨by omega, by omega⟩ ⟨by omega, by omega⟩
 exact ⟨ha, hc, ⟨by omega, by omega⟩, ⟨by omega, by omega⟩, rfl⟩
theorem JO (a : List UInt8) (b : List UInt8) (ha : z8 a = true) (hc : z8 b = true) : zu Tryz.prog [] 29 [.str a, .str b] (.tup 2 (zw [.i (xM (zK a * (zn b : Int)) (zK b * (zn a : Int))), .i 0])) :=
 zv (T := (T0.plus 55 Sp).plus 56 tP) (an := .auto) mixed (zz.plus (zz.plus zq LZ) Q5) (Eq.mp (by kernel_rfl) (kz a b ha hc))
theorem J7 : zP Tryz.prog [] 29 QL := by
 intro xs ps r h hp
 unfold QL at h
 split at h
 ·skip
  rename_i a b
  cases h
  obtain ⟨q0, q1, -⟩ := Zo hp
  exact weaken (ys := [.str a, .str b]) ⟨zV _, zV _, trivial⟩ (JO a b q0 q1)
 ·cases h
theorem PI {q : Rat} (h1 : q.num.natAbs ≤ 99999999) (h2 : q.den ≤ 99999999) : z8 (zW q) = true := by
 obtain ⟨e1, e2⟩ := X8 q
 have k : (10 : Nat) ^ 9 = 1000000000 := by decide
 exact lD (PP (k := 9) (by decide) ⟨by rw [k]; omega, by rw [k]; omega⟩ (by decide)) (by rw [e1]; exact h1) (by rw [e2]; exact h2)
def Ms (r : Nat → AV) : Bool := zR.ok (α := Tm) r && (Nat.ble (zR.dec (α := Tm) r).q.num.natAbs RM && Nat.ble (zR.dec (α := Tm) r).q.den RM)
def TA (r s : Nat → AV) : Int := Xj (zR.dec (α := Tm) r).q (zR.dec (α := Tm) s).q
theorem KZ (x : Tm) (y : Tm) (h1 : z8 (zW x.q) = true) (h2 : z8 (zW y.q) = true) :
 Zy [AV.agg 2 (zR.enc x), AV.agg 2 (zR.enc y)] → z8 (zW (Tm.q x)) = true ∧ z8 (zW (Tm.q y)) = true ∧ kI ∧ xM (zK (zW (Tm.q x)) * (cI (zn (zW (Tm.q y))))) (zK (zW (Tm.q y)) * (cI (zn (zW (Tm.q x))))) = Xj (Tm.q x) (Tm.q y) := by
 delta cI kI
 intro hb
 simp only [sS, Zu, za, zS, dS]
 refine ⟨h1, h2, ?_⟩
 have := Mo (yh h1).1 (yh h2).1
 rw [zS, zS] at this
 exact this
theorem iF (x : Tm) (y : Tm) (h1 : z8 (zW x.q) = true) (h2 : z8 (zW y.q) = true) : zu Tryz.prog [] 49 [xz x, xz y] (.i (Xj x.q y.q)) :=
 zv (T := T0.plus 29 QL) (an := .auto) mixed (zz.plus zq J7) (Eq.mp (by kernel_rfl) (KZ x y h1 h2))
theorem NV : LQ Tryz.prog 2 49 Ms TA where
 pos := by decide
 ent := enters_of Tryz.func49 (by kernel_rfl) rfl
 call := fun r s hr hs => by
  unfold Ms at hr hs
  rw [Bool.and_eq_true, Bool.and_eq_true] at hr hs
  have ar : yp Tm (.agg 2 r) = true := hr.1
  have a2 : yp Tm (.agg 2 s) = true := hs.1
  exact weaken (ys := [_, _]) ⟨Zs ar, Zs a2, trivial⟩ (iF _ _ (PI (Nat.le_of_ble_eq_true hr.2.1) (Nat.le_of_ble_eq_true hr.2.2)) (PI (Nat.le_of_ble_eq_true hs.2.1) (Nat.le_of_ble_eq_true hs.2.2)))
 swo := fun els f => by
  have key : ∀ a b : Rat, Xj a b < 0 ↔ a < b := fun a b => by
   unfold Xj
   split
   ·rename_i h; exact ⟨fun _ => h, fun _ => by decide⟩
   ·rename_i h
    split
    ·exact ⟨fun h => absurd h (by decide), fun e => absurd e h⟩
    ·exact ⟨fun h => absurd h (by decide), fun e => absurd e h⟩
  refine ⟨fun x => ?_, fun x y z h1 h2 => ?_, fun x y z h1 h2 => ?_⟩ <;>
   simp only [ltOf, TA, decide_eq_true_eq, decide_eq_false_iff_not, key, Rat.not_lt] at *
  ·exact Rat.le_refl
  ·grind
  ·grind
def jt := Se 2 49 Ms TA
theorem o9 (G : List (Nat × Obj)) : uT Tryz.prog G 48 jt :=
 O0 (enters_of Tryz.func48 (by kernel_rfl) rfl) ni Me NV G
end Go.Te

namespace Go.Te
open Go Go.Sx Go.Proofs Go.Ar Go.RowKit
set_option maxRecDepth 100000
set_option maxHeartbeats 4000000
structure Vw (l : List Tm) : Prop where
 len : l.length ≤ 256
 cs : ∀ t ∈ l, bq 60 t.c
 qs : ∀ t ∈ l, t.q ≠ 0 → lP (zW t.q)
 root : inT RM l
 cls : ∀ k, ∀ x ∈ wq (xY (l.take k)), bq 60 x.c
 out : (YQ l).length ≤ 16
def Mt (t : TypeId) (l : List Tm) : OB := .arr t 2 l.length fun i j => zR.enc (l.getD i zR.dflt) j
def HV : OB → List Tm
 | .arr _ _ n els => (List.range n).map fun i => zR.dec (els i)
 | _ => []
def UK : AV → Nat
 | .np k _ => k
 | _ => 0
def I0 : AV → Nat
 | .fn _ _ first _ _ => UK (first 0)
 | _ => 0
noncomputable def HJ (G : List (Nat × Obj)) : Tb := Tb.own1 ((((((((Xh G).plus 43 ua).plus 44 (Yl fun s => .b (zk s))).plus 83 uf).plus 47 uk).plus 40 vS).plus 74 Ui).plus 84 rt |>.plus 29 rn) 48 jt
theorem Q7 {G : List (Nat × Obj)} (hG : zO G) : zz Tryz.prog (HJ G) := zz.own1 (zz.plus (zz.plus (zz.plus (zz.plus (zz.plus (zz.plus (zz.plus (zz.plus zq (SC hG)) (zP.mono rp)) (PT hG)) (pA hG)) (Ve hG)) (Qe hG)) (li hG)) (Qk hG)) (o9 G)
def cellAt (B : OB) (i : Nat) : AV :=
 match B with
 | .box _ _ cs => cs i
 | _ => .junk
def Rk (x y : AV) : Tm := ⟨zo (AV.bytes x), zo (AV.bytes y)⟩
def YN (x t : Tm) : Tm × Tm := if t.q < x.q then (t, x) else (x, t)
theorem zF (a b : zj) : Rk (.str a) (.str b) = ⟨zo a, zo b⟩ := rfl
theorem Zz (t : TypeId) (l : List Tm) : HV (OB.arr t 2 l.length fun i j => zR.enc (l.getD i zR.dflt) j) = l := by
 have e : ((List.range l.length).map fun i => zR.dec (α := Tm) (fun j => zR.enc (l.getD i zR.dflt) j)) = l := by
  apply List.ext_getElem
  ·simp
  ·intro i h1 h2
   rw [List.getElem_map, List.getElem_range, List.getD_eq_getElem?_getD, List.getElem?_eq_getElem h2]
   exact Yy.dec _
 exact e
def KI : yQ := .two .auto (.two .auto (.two (.one (.two .auto (.two .auto (.two .auto (.two .auto (.two .auto
 (.join (Tm × Tm) (fun σ _ => [(0, σ.tm 0), (5, σ.tm 5), (6, σ.tm 6), (10, σ.tm 10)]) (fun σ z => [(UK (σ.tm 6), .box 79 2 (zR.enc z.1)), (UK (σ.tm 10), .box 79 2 (zR.enc z.2))]) 0
  (fun σ z => z = YN (Rk (cellAt (σ.bl (UK (σ.tm 6))) 0) (cellAt (σ.bl (UK (σ.tm 6))) 1)) (Rk (cellAt (σ.bl (UK (σ.tm 10))) 0) (cellAt (σ.bl (UK (σ.tm 10))) 1))) .auto .auto))))))) .auto))
def Kc  : yQ :=
 .two .auto (.two (.two .auto (.one (.loop Nat (fun σ z => [(0, σ.tm 0), (3, σ.tm 3), (17, σ.tm 17), (18, σ.tm 18), (19, .i (z : Int))]) (fun σ z => []) 0 (fun σ z => z ≤ (HV (σ.bl (Ym (σ.tm 17)))).length ∧ ∀ j, j < z → yH (yR (α := Tm) (σ.tm 1)).q ((HV (σ.bl (Ym (σ.tm 17)))).getD j zR.dflt).q = false) (fun σ z => (HV (σ.bl (Ym (σ.tm 17)))).length - z) KI))) .auto)
def Zv (l : List Tm) (k : Nat) : List Tm := wq (xY (l.take k))
def kt : yQ := .two .auto (.two .auto (.two (.one (.two .auto (.two .auto (.two .auto
 (.join (Rat × Rat) (fun σ z => [(1, σ.tm 1), (6, σ.tm 6), (11, σ.tm 11), (12, σ.tm 12), (13, σ.tm 13), (7, .str (zW z.1)), (8, .str (zW z.2)), (9, .i 0)]) (fun _ _ => []) 0
  (fun σ z => z.1 = nK (Rk (cellAt (σ.bl (UK (σ.tm 6))) 0) (cellAt (σ.bl (UK (σ.tm 6))) 1)).q ∧ z.2 = nL (Rk (cellAt (σ.bl (UK (σ.tm 6))) 0) (cellAt (σ.bl (UK (σ.tm 6))) 1)).q) .auto .auto))))) .auto))
def kF (l : List Tm) : yQ :=
 .two .auto (.two (.two .auto (.one (.loop Nat (fun σ z => [(1, σ.tm 1), (11, σ.tm 11), (12, σ.tm 12), (13, .i (z : Int))]) (fun σ z => [(I0 (σ.tm 1), .box 75 1 fun _ => .ns σ.nb 0 (Zv l z).length), (σ.nb, Mt 79 (Zv l z))]) 1 (fun σ z => z ≤ l.length) (fun σ z => l.length - z) kt))) .auto)
def y5 (l : List Tm) (k : Nat) : List Tm := ((Zv l l.length).take k).filter fun t => decide (t.c ≠ 0)
def jg (l : List Tm) : yQ :=
 .two .auto (.two .auto (.two (.two .auto (.one (.loop Nat (fun σ z => [(0, σ.tm 0), (16, σ.tm 16), (17, σ.tm 17), (18, .i (z : Int))]) (fun σ z => []) 0 (fun σ z => z ≤ l.length) (fun σ z => l.length - z) .auto))) (.two .auto (.two .auto (.two .auto (.two (.two .auto (.one (.loop Nat (fun σ z => [(45, σ.tm 45), (46, σ.tm 46), (10, .ns σ.nb 0 (y5 l z).length), (47, .i (z : Int))]) (fun σ z => [(σ.nb, Mt 49 (y5 l z))]) 1 (fun σ z => z ≤ (Zv l l.length).length) (fun σ z => (Zv l l.length).length - z) .auto))) .auto))))))
theorem ZC (x : Tm) : yR (AV.agg 2 fun i => zR.enc x i) = x := Wa x
theorem Zr (x : Tm) : yp Tm (AV.agg 2 fun i => zR.enc x i) = true := X0 x
theorem uD (a b : Rat) : Xj a b < 0 ↔ a < b := by
 unfold Xj
 split
 ·rename_i h; exact ⟨fun _ => h, fun _ => by decide⟩
 ·rename_i h
  split
  ·exact ⟨fun h => absurd h (by decide), fun e => absurd e h⟩
  ·exact ⟨fun h => absurd h (by decide), fun e => absurd e h⟩
theorem RV (l : List Tm) (x : Tm) : xY (l ++ [x]) = xY l ++ if x.c = 0 ∨ x.q = 0 then [] else [XP x] := by
 unfold xY
 rw [List.filter_append, List.map_append]
 congr 1
 by_cases h1 : x.c = 0
 ·rw [if_pos (.inl h1)]; simp [h1]
 ·by_cases h2 : x.q = 0
  ·rw [if_pos (.inr h2)]; simp [h2]
  ·rw [if_neg (by simp [h1, h2])]; simp [h1, h2]
theorem UV {l : List Tm} {z : Nat} (h : z < l.length) : l.take (z + 1) = l.take z ++ [l.getD z zR.dflt] := Oh (d := zR.dflt) h
theorem ot {l : List Tm} {z : Nat} (h : z < l.length) (h0 : (l.getD z zR.dflt).c = 0 ∨ (l.getD z zR.dflt).q = 0) : Zv l (z + 1) = Zv l z := by
 unfold Zv
 rw [UV h, RV, if_pos h0, List.append_nil]
theorem Oa {l : List Tm} {z : Nat} (h : z < l.length) (h0 : ¬((l.getD z zR.dflt).c = 0 ∨ (l.getD z zR.dflt).q = 0)) : Zv l (z + 1) = W1 (Zv l z) (XP (l.getD z zR.dflt)) := by
 unfold Zv
 rw [UV h, RV, if_neg h0, Tf]
theorem PL (t : Tm) : XP t = ⟨t.c * nK t.q, nL t.q⟩ := rfl
theorem N2 : nK 1 = 1 ∧ nL 1 = 1 := by decide +kernel
theorem H3 {q : Rat} (h : lP (zW q)) : 0 < q ∧ mQ q < 10 ^ 17 ∧ bq 17 (nK q) := by
 have hp := h.pos
 have hl := h.len
 rw [zS] at hp hl
 have hn : 0 < q.num := by
  have := Rat.num_nonneg.2 (Rat.le_of_lt hp)
  have h2 : q.num ≠ 0 := fun e => (Rat.ne_of_gt hp) (Rat.num_eq_zero.1 e)
  omega
 have b1 := Wz q.num
 have b2 := Wz (q.den : Int)
 have e2 : XZ (q.den : Int) = Lib.nDigits q.den := by unfold XZ; rw [Int.natAbs_natCast]
 rw [e2, Int.natAbs_natCast] at b2
 have b3 : q.num.natAbs * q.den < 10 ^ 17 := by
  refine Nat.lt_of_lt_of_le (Nat.mul_lt_mul'' b1 b2) ?_
  rw [← Nat.pow_add]
  exact Nat.pow_le_pow_right (by omega) hl
 have em : mQ q = q.num.natAbs * q.den := by unfold mQ; rw [show q.num.toNat = q.num.natAbs by omega]
 rw [← em] at b3
 have hd : q.den < 10 ^ 17 := Nat.lt_of_lt_of_le b2 (Nat.pow_le_pow_right (by omega) (by omega))
 exact ⟨hp, b3, UN q.den_pos (by rw [Int.natAbs_natCast]; exact Nat.lt_of_le_of_lt (Uu (tM hp)).2.2 b3) hd⟩
theorem WS {R : Nat} {x : Tm} (h : ZG R x) (hR : R < 100000000) : bq 8 x.q ∧ 0 < x.q ∧ x.q.den = 1 ∧ x.q.num.natAbs ≤ R := by
 obtain ⟨r, e, h0, h1⟩ := h
 have k : (10 : Nat) ^ 8 = 100000000 := by decide
 rw [e]
 refine ⟨⟨by rw [Rat.num_natCast, Int.natAbs_natCast, k]; omega, by rw [Rat.den_natCast, k]; omega⟩, ?_, Rat.den_natCast r, by rw [Rat.num_natCast, Int.natAbs_natCast]; exact h1⟩
 exact Rat.lt_of_le_of_ne Rat.natCast_nonneg fun e => by have := Rat.natCast_eq_zero_iff.1 e.symm; omega
theorem qf {x y : Tm} (hx : ZG RM x) (hy : ZG RM y) : jo (zW x.q) (zW y.q) := by
 obtain ⟨b1, p1, d1, n1⟩ := WS hx (by decide)
 obtain ⟨b2, p2, d2, n2⟩ := WS hy (by decide)
 have key : bq 8 (x.q / y.q) := by
  obtain ⟨r, e, h0, h1⟩ := hx
  obtain ⟨s, e2, g0, g1⟩ := hy
  have k : (10 : Nat) ^ 8 = 100000000 := by decide
  have : x.q / y.q = mkRat (r : Int) s := by rw [e, e2, Rat.mkRat_eq_div]; rfl
  rw [this]
  exact UN g0 (by rw [Int.natAbs_natCast, k]; exact Nat.lt_of_le_of_lt h1 (by decide)) (by rw [k]; exact Nat.lt_of_le_of_lt g1 (by decide))
 refine ⟨⟨(Zh (by decide) (by decide)).2 (b1.mono (by decide)), ?_⟩, ⟨(Zh (by decide) (by decide)).2 (b2.mono (by decide)), ?_⟩, ?_, ?_, ?_⟩
 ·rw [zS]; exact Rat.le_of_lt p1
 ·rw [zS]; exact Rat.le_of_lt p2
 ·rw [zS]; exact p2
 ·rw [zS, zS]; exact Nat.le_trans (xf (k := 8) (by decide) key.num) (by decide)
 ·rw [zS, zS]; exact Nat.le_trans ((Zw (k := 8) (by decide)).2 key.den) (by decide)
theorem Mv {x y : Tm} (hx : ZG RM x) (hy : ZG RM y) (h : yH x.q y.q = true) : yH y.q x.q = true := by
 cases hb : yH y.q x.q with
 | true => rfl
 | false =>
  have := (uC hx hy (by decide)).2 ((uC hy hx (by decide)).1 hb).symm
  rw [h] at this
  cases this
theorem kT (x t : Tm) : Xf x t = ⟨(YN x t).1.c + (YN x t).2.c * wh (YN x t).2.q (YN x t).1.q, (YN x t).1.q⟩ := by
 unfold Xf YN
 split <;> rfl
theorem OU {l : List Tm} {z : Nat} (h : z < (Zv l l.length).length) : y5 l (z + 1) = y5 l z ++ if ((Zv l l.length).getD z zR.dflt).c = 0 then [] else [(Zv l l.length).getD z zR.dflt] := by
 unfold y5
 rw [UV h, List.filter_append]
 congr 1
 generalize (Zv l l.length).getD z zR.dflt = x
 by_cases h1 : x.c = 0
 ·rw [if_pos h1]; simp [h1]
 ·rw [if_neg h1]; simp [h1]
theorem re (l : List Tm) : Zv l l.length = wq (xY l) := by unfold Zv; rw [List.take_length]
theorem nh (l : List Tm) : y5 l (Zv l l.length).length = Y7 l := by
 unfold y5 Y7
 rw [List.take_length, re]
theorem ye {l : List Tm} {i : Nat} (h : i < l.length) : l.getD i zR.dflt ∈ l := by
 rw [List.getD_eq_getElem?_getD, List.getElem?_eq_getElem h]
 exact List.getElem_mem h
theorem PV (l : List Tm) (x : Tm) (i j : Nat) (hi : i < l.length + 1) : zd (if i < l.length then zR.enc (l.getD i zR.dflt) j else zw [AV.str (zW x.c), AV.str (zW x.q)] j) (zR.enc ((l ++ [x]).getD i zR.dflt) j) := by
 by_cases h : i < l.length
 ·rw [if_pos h, show (l ++ [x]).getD i zR.dflt = l.getD i zR.dflt by simp [List.getD_eq_getElem?_getD, List.getElem?_append_left h]]
  exact zV _
 ·obtain rfl : i = l.length := by omega
  rw [if_neg h, show (l ++ [x]).getD l.length zR.dflt = x by simp [List.getD_eq_getElem?_getD]]
  exact zV _
theorem gg (l : List Tm) (k : Nat) (x : Tm) (hk : k < l.length) (i j : Nat) (hj : j < 2) : zd (if i = k ∧ j < 2 then (if j < 2 then zR.enc x j else Z4 (Value.agg #[Value.string ⟨#[]⟩, Value.string ⟨#[]⟩]) j) else zR.enc (l.getD i zR.dflt) j) (zR.enc ((l.set k x).getD i zR.dflt) j) := by
 by_cases e : i = k
 ·subst e
  rw [if_pos ⟨rfl, hj⟩, if_pos hj, show (l.set i x).getD i zR.dflt = x by simp [List.getD_eq_getElem?_getD, hk]]
  exact zV _
 ·rw [if_neg fun h => e h.1, show (l.set k x).getD i zR.dflt = l.getD i zR.dflt by simp [List.getD_eq_getElem?_getD, List.getElem?_set_ne (Ne.symm e)]]
  exact zV _
noncomputable def GE (G : List (Nat × Obj)) (l : List Tm) : Tb := ((HJ G).body Tryz.prog [(46, Kc)]).body Tryz.prog [(45, kF l)]
theorem O5 {G : List (Nat × Obj)} (hG : zO G) (l : List Tm) : zz Tryz.prog (GE G l) := zz.body mixed (zz.body mixed (Q7 hG) _) _
theorem M6 {l : List Tm} (h : Vw l) (z : Nat) : (Zv l z).length ≤ l.length ∧ ∀ x ∈ Zv l z, ZG RM x ∧ bq 60 x.c := by
 obtain ⟨_, g2, _, g4, _⟩ := tj (R := RM) (by decide) (l := l.take z) fun t ht => h.root t (List.mem_of_mem_take ht)
 exact ⟨Nat.le_trans g4 (by rw [List.length_take]; omega), fun x hx => ⟨g2 x hx, h.cls z x hx⟩⟩
theorem Lb {l : List Tm} (h : Vw l) {p : List Nat} (hp : p.Perm (List.range (Y7 l).length)) (hs : p.Pairwise fun i j => ¬ TA (fun k => zR.enc ((Y7 l).getD j zR.dflt) k) (fun k => zR.enc ((Y7 l).getD i zR.dflt) k) < 0) :
  YQ l = p.map fun i => (Y7 l).getD i zR.dflt := by
 obtain ⟨g1, g2, _, _, _⟩ := tj (R := RM) (by decide) h.root
 have e : ((List.range (Y7 l).length).map fun i => (Y7 l).getD i zR.dflt) = Y7 l := by
  apply List.ext_getElem
  ·simp
  ·intro i h1 h2
   rw [List.getElem_map, List.getElem_range, List.getD_eq_getElem?_getD, List.getElem?_eq_getElem h2]
   rfl
 have hpp := hp.map fun i => (Y7 l).getD i zR.dflt
 rw [e] at hpp
 refine (pL (R := RM) (l := Y7 l) (fun x hx => g2 x (List.mem_filter.1 hx).1) (g1.filter _) hpp ?_).symm
 rw [List.pairwise_map]
 refine hs.imp fun {i j} hij => ?_
 have e1 : ∀ x : Tm, zR.dec (α := Tm) (fun k => zR.enc x k) = x := fun x => Yy.dec x
 unfold TA at hij
 rw [e1, e1, uD] at hij
 exact Rat.not_lt.1 hij
def rI : List AV → Option (List zN × AV)
 | [x_l] => some ([.b (z6 Tm x_l), .p (Vw (Z5 (α := Tm) x_l))], .tup 2 (zw [ZA (YQ (Z5 (α := Tm) x_l)), .i 0]))
 | _ => none
theorem J9 (G : List (Nat × Obj)) (l : List Tm) (h : Vw l) :
 let q2 := (True ∧ Value.slice (X7 Addr) 0 0 = Value.slice (X7 Addr) 0 0 ∧ lN (YQ l) = 0); let q1 := (j2 ∧ q2 ∧ kI ∧ (4 : Int) = iZ); let q3 := (AV.xl false 2 (lN l) fun i j => zR.enc (gD l i zR.dflt) j); let q4 := (kI ∧ (lZ l) = (lZ l)); let q7 := (AV.fn (Fn.func 46) 1 (fun i => Option.getD [AV.np (nat_lit 0) 0][i]? AV.junk) 0 fun (i : Nat) => AV.junk); let q12 := (ByteArray.data (ByteArray.mk #[(48 : UInt8)])); let q15 := (ByteArray.data (ByteArray.mk #[(49 :
 UInt8)])); Zy [AV.xl false 2 (lN l) fun i j => zR.enc (gD l i zR.dflt) j] → zZ (zG (256 : Int) (lZ l)) q1 ((∃ (z : Nat), (z ≤ lN l ∧ zd q3 q3 ∧ zd q3 q3 ∧ q4 ∧ kI ∧ iZ = (cI z)) ∧ True) ∧ ∀ (z : Nat), let q5 := (gD l (Int.toNat (cI z)) zR.dflt); let q6 := (zW (Tm.q q5)); z ≤ lN l → zZ (zG (cI z) (lZ l)) (bF (DB.db (iZ ≤ (cI z) ∧ (cI z) < (lZ l))) (YZ 300 (zW (Tm.c q5)) ∧ YZ 300 q6 ∧ zZ (zk q6) (2 = lN [AV.junk,
 AV.junk] ∧ q2 ∧ kI ∧ (2 : Int) = iZ) (bF (dK ((cI z) + iO)) (∃ (z' : Nat), ((z' ≤ lN l ∧ lN l - z' < lN l - z) ∧ zd q3 q3 ∧ zd q3 q3 ∧ q4 ∧ kI ∧ (cI z) + iO = (cI z')) ∧ True)))) ((∃ (z : Nat), (z ≤ lN l ∧ zd q7 q7 ∧ zd q3 q3 ∧ q4 ∧ kI ∧ iZ = (cI z)) ∧ ((75 : TypeId) = 75 ∧ 1 = 1 ∧ some (X7 Nat) = some (X7 Nat) ∧ 0 = 0 ∧ lN (Zv l z) = 0) ∧ lN (Zv l z) = 0) ∧ ∀ (z : Nat), let q11 := (gD l (Int.toNat (↑z :
 Int)) zR.dflt); let q10 := (Tm.c q11); let q9 := (zW q10 == Array.toList q12); let q8 := (!zr false q9 || zr false q9); let q13 := (Tm.q q11); let q14 := (dK ((cI z) + iO)); let q16 := (zW q13); let q18 := (zW q10); let q17 := (Tm.q (Rk (AV.str q18) (AV.str q16))); let q19 := (kI ∧ (cI z) = (cI z)); let q20 := (zo q16); let q21 := ((75 = 75 ∧ 1 = 1 ∧ nat_lit 1 = 1 ∧ 0 = 0 ∧ lN (Zv l z) = lN (Zv l z)) ∧ 79 = 79 ∧ 2 = 2 ∧ lN (Zv l z) = lN (Zv l z) ∧ ∀ (i j : Nat), let q22 := (zR.enc
 (gD (Zv l z) i zR.dflt) j); i < lN (Zv l z) → j < 2 → zd q22 q22); let q23 := (HV (OB.arr (79 : TypeId) 2 (lN (Zv l z)) fun i j => zR.enc (gD (Zv l z) i zR.dflt) j)); let q27 := (nat_lit 1 = 1 ∧ 0 = 0 ∧ lN (Zv l z) = lN (Zv l z)); let q28 := (kI ∧ (lZ (Zv l z)) = (lZ (Zv l z))); let q29 := (q21 ∧ 49 = 49 ∧ 2 = 2 ∧ zW q10 = zW q10 ∧ zW q13 = zW q13); let q45 := (DB.db ((lN (Zv l z) + 1) * 32 ≤ 140737488355328)); z ≤ lN l → zZ (zG (cI z)
 (lZ l)) (bF (DB.db (iZ ≤ (cI z) ∧ (cI z) < (lZ l))) (bF q8 (bF q8 (bF (!!zW q10 == Array.toList q12 || zr false q9) (zZ (bif zW q10 == Array.toList q12 then true else zW q13 == Array.toList q12) (bF q14 (∃ (z' : Nat), ((z' ≤ lN l ∧ lN l - z' < lN l - z) ∧ zd q7 q7 ∧ zd q3 q3 ∧ q4 ∧ kI ∧ (cI z) + iO = (cI z')) ∧ (75 = 75 ∧ 1 = 1 ∧ nat_lit 1 = 1 ∧ 0 = 0 ∧ lN (Zv l z') = lN (Zv l z)) ∧ 79 = 79 ∧ 2 = 2 ∧ lN (Zv l z') =
 lN (Zv l z) ∧ ∀ (i j : Nat), i < lN (Zv l z) → j < 2 → zd (zR.enc (gD (Zv l z) i zR.dflt) j) (zR.enc (gD (Zv l z') i zR.dflt) j))) (zZ (!zW q13 == Array.toList q15) (lP q16 ∧ ∃ (z_1 : Rat × Rat), ((Prod.fst z_1 = nK q17 ∧ Prod.snd z_1 = nL q17) ∧ zd q7 q7 ∧ (nat_lit 2 = 2 ∧ 0 = 0) ∧ zd q3 q3 ∧ q4 ∧ q19 ∧ zW (nK q20) = zW (Prod.fst z_1) ∧ zW (nL q20) = zW (Prod.snd z_1) ∧ kI ∧ iZ = iZ) ∧ q21 ∧ 49 = 49 ∧ 2 = 2 ∧ zW q10 = zW q10 ∧ zW q13 = zW q13) (∃ (z_1 : Rat × Rat), ((Prod.fst z_1 = nK q17
 ∧ Prod.snd z_1 = nL q17) ∧ zd q7 q7 ∧ (nat_lit 2 = 2 ∧ 0 = 0) ∧ zd q3 q3 ∧ q4 ∧ q19 ∧ Array.toList q15 = zW (Prod.fst z_1) ∧ zW q13 = zW (Prod.snd z_1) ∧ kI ∧ iZ = iZ) ∧ q21 ∧ 49 = 49 ∧ 2 = 2 ∧ zW q10 = zW q10 ∧ zW q13 = zW q13) ∧ ∀ (z_1 : Rat × Rat), let q26 := (zo q18 * zo (zW (Prod.fst z_1))); let q25 := (zW q26); let q24 := (Tm.q (yR (AV.agg 2 (zw [AV.str q25, AV.str (zW (Prod.snd z_1))])))); let q37 := (Rk (AV.str q25) (AV.str (zW (Prod.snd z_1)))); let q39 := (q29 ∧ 49 = 49 ∧ 2 = 2 ∧ zW q26 = zW q26 ∧ zW (Prod.snd z_1) =
 zW (Prod.snd z_1)); let q46 := (bF q14 (∃ (z' : Nat), ((z' ≤ lN l ∧ lN l - z' < lN l - z) ∧ zd q7 q7 ∧ zd q3 q3 ∧ q4 ∧ kI ∧ (cI z) + iO = (cI z')) ∧ (75 = 75 ∧ 1 = 1 ∧ nat_lit 1 = 1 ∧ 0 = 0 ∧ lN (Zv l z') = lN (Zv l z) + 1) ∧ (79 : TypeId) = 79 ∧ 2 = 2 ∧ lN (Zv l z') = lN (Zv l z) + 1 ∧ ∀ (i j : Nat), i < lN (Zv l z) + 1 → j < 2 → zd (if i < lN (Zv l z) then zR.enc (gD (Zv l z) i zR.dflt) j else Sx.rowAt [zw [AV.str q25, AV.str (zW (Prod.snd
 z_1))]] (i - lN (Zv l z)) j) (zR.enc (gD (Zv l z') i zR.dflt) j))); Prod.fst z_1 = nK q17 ∧ Prod.snd z_1 = nL q17 → (zr false (iZ != iZ) = true → YZ 300 (zW (Prod.snd z_1))) ∧ zZ (bif iZ != iZ then true else zG (90 : Int) (WT (zo (zW (Prod.snd z_1))))) q1 (YM 140 q18 (zW (Prod.fst z_1)) ∧ (∃ (z_2 : Nat), ((z_2 ≤ lN q23 ∧ ∀ (j : Nat), j < z_2 → yH q24 (Tm.q (gD q23 j zR.dflt)) = false) ∧ (nat_lit 0 = 0 ∧ 0 = 0) ∧ (nat_lit 3 = 3 ∧ 0 = 0) ∧ q27 ∧ q28 ∧ kI ∧ iZ = (cI z_2)) ∧ q29 ∧
 49 = 49 ∧ 2 = 2 ∧ zW q26 = zW q26 ∧ zW (Prod.snd z_1) = zW (Prod.snd z_1)) ∧ ∀ (z_2 : Nat), let q30 := (DB.db (iZ ≤ (cI z_2) ∧ (cI z_2) < (lZ (Zv l z)))); let q33 := (gD (Zv l z) (0 + Int.toNat (cI z_2)) zR.dflt); let q32 := (Tm.q q33); let q31 := (zW q32); let q34 := (zo q31); let q36 := (Tm.c q33); let q35 := (Rk (AV.str (zW q36)) (AV.str q31)); let q38 := (kI ∧ (cI z_2) = (cI z_2)); (z_2 ≤ lN q23 ∧ ∀ (j : Nat), j < z_2 → yH q24 (Tm.q (gD q23 j zR.dflt)) = false) → zZ (zG (↑z_2 :
 Int) (lZ (Zv l z))) (bF q30 (jo (zW (Prod.snd z_1)) q31 ∧ zZ (!yH (zo (zW (Prod.snd z_1))) q34) (bF (dK ((cI z_2) + iO)) (∃ (z' : Nat), (((z' ≤ lN q23 ∧ ∀ (j : Nat), j < z' → yH q24 (Tm.q (gD q23 j zR.dflt)) = false) ∧ lN q23 - z' < lN q23 - z_2) ∧ (nat_lit 0 = 0 ∧ 0 = 0) ∧ (nat_lit 3 = 3 ∧ 0 = 0) ∧ q27 ∧ q28 ∧ kI ∧ (cI z_2) + iO = (cI z')) ∧ q29 ∧ 49 = 49 ∧ 2 = 2 ∧ zW q26 = zW q26 ∧ zW (Prod.snd z_1) = zW (Prod.snd z_1))) ((YM 140 (zW (Prod.snd
 z_1)) q31 ∧ zZ (zG (Xj (zo (zW (Prod.snd z_1))) q34) iZ) (∃ (z_3 : Tm × Tm), (z_3 = YN q35 q37 ∧ (nat_lit 0 = 0 ∧ 0 = 0) ∧ q38 ∧ (nat_lit 4 = 4 ∧ 0 = 0) ∧ nat_lit 5 = 5 ∧ 0 = 0) ∧ (q39 ∧ (79 : TypeId) = 79 ∧ 2 = 2 ∧ zW q26 = zW (Tm.c (Prod.fst z_3)) ∧ zW (Prod.snd z_1) = zW (Tm.q (Prod.fst z_3))) ∧ (79 : TypeId) = 79 ∧ 2 = 2 ∧ zW q36 = zW (Tm.c (Prod.snd z_3)) ∧ zW q32 = zW (Tm.q (Prod.snd z_3))) (∃ (z_3 : Tm × Tm), (z_3 = YN q35 q37 ∧ (nat_lit 0 = 0 ∧ 0 = 0) ∧ q38 ∧ (nat_lit 4 = 4 ∧ 0 = 0) ∧ nat_lit 5 = 5 ∧ 0 = 0) ∧ (q39 ∧ (79 : TypeId) = 79 ∧ 2 = 2 ∧
 zW q36 = zW (Tm.c (Prod.fst z_3)) ∧ zW q32 = zW (Tm.q (Prod.fst z_3))) ∧ (79 : TypeId) = 79 ∧ 2 = 2 ∧ zW q26 = zW (Tm.c (Prod.snd z_3)) ∧ zW (Prod.snd z_1) = zW (Tm.q (Prod.snd z_3)))) ∧ ∀ (z_3 : Tm × Tm), let q40 := (AV.agg 2 fun (i : Nat) => zR.enc (Prod.fst z_3) (0 + i)); let q41 := (AV.agg 2 fun (i : Nat) => zR.enc (Prod.snd z_3) (0 + i)); z_3 = YN q35 q37 → bF (yp Tm q40) (bF (yp Tm q41) (Ho (yR q40) (yR q41) ∧ bF q30 (bF q14 (∃ (z' : Nat), ((z' ≤ lN l ∧ lN l - z' < lN l - z) ∧ zd q7 q7 ∧ zd q3 q3 ∧ q4 ∧ IntKind.i64
 = .i64 ∧ (cI z) + iO = (cI z')) ∧ (75 = 75 ∧ 1 = 1 ∧ nat_lit 1 = 1 ∧ 0 = 0 ∧ lN (Zv l z') = lN (Zv l z)) ∧ 79 = 79 ∧ 2 = 2 ∧ lN (Zv l z') = lN (Zv l z) ∧ ∀ (i j : Nat), let q42 := (yR (AV.agg 2 fun (i : Nat) => zR.enc (Prod.fst z_3) (0 + i))); let q43 := (yR (AV.agg 2 fun (i : Nat) => zR.enc (Prod.snd z_3) (0 + i))); let q44 := (Tm.q q42); i < lN (Zv l z) → j < 2 → zd (if i = 0 + Int.toNat (cI z_2) ∧ 0 ≤ j ∧ j < 2 then if 0 ≤ 0 + (j - 0) ∧ 0 + (j - 0) < 2 then zR.enc (Tm.mk (Tm.c q42 + Tm.c q43 * wh (Tm.q q43)
 q44) q44) (0 + (j - 0) - 0) else Z4 (Value.agg #[Value.string (ByteArray.mk #[]), Value.string (ByteArray.mk #[])]) (0 + (j - 0)) else zR.enc (gD (Zv l z) i zR.dflt) j) (zR.enc (gD (Zv l z') i zR.dflt) j)))))))) (bF q45 q46 ∧ bF q45 q46)))))))) ((∃ (z_1 : Nat), (z_1 ≤ lN (Zv l (lN l)) ∧ q27 ∧ q28 ∧ (some (X7 Nat) = some (X7 Nat) ∧ 0 = 0 ∧ lN (y5 l z_1) = 0) ∧ kI ∧ iZ = (cI z_1)) ∧ q21 ∧ lN (y5 l z_1) = 0) ∧ ∀ (z_1 : Nat), let
 q48 := (gD (Zv l z) (0 + Int.toNat (cI z_1)) zR.dflt); let q47 := (Tm.c q48); let V6 := (dK ((cI z_1) + iO)); let q50 := (zW q47); let q53 := (WT (zo q50)); let q52 := (zG (60 : Int) q53); let q51 := (!zr false q52 || zr false q52); let q54 := (zW (Tm.q q48)); z_1 ≤ lN (Zv l (lN l)) → zZ (zG (cI z_1) (lZ (Zv l z))) (bF (DB.db (iZ ≤ (cI z_1) ∧ (cI z_1) < (lZ (Zv l z)))) (zZ (zW q47 == Array.toList q12) (bF V6 (∃ (z' : Nat), ((z' ≤ List.length
 (Zv l (lN l)) ∧ lN (Zv l (lN l)) - z' < lN (Zv l (lN l)) - z_1) ∧ q27 ∧ q28 ∧ (nat_lit 2 = 2 ∧ 0 = 0 ∧ lN (y5 l z') = lN (y5 l z_1)) ∧ kI ∧ (cI z_1) + iO = (cI z')) ∧ q21 ∧ 49 = 49 ∧ 2 = 2 ∧ lN (y5 l z') = lN (y5 l z_1) ∧ ∀ (i j : Nat), i < lN (y5 l z_1) → j < 2 → zd (zR.enc (gD (y5 l z_1) i zR.dflt) j) (zR.enc (gD (y5 l z') i zR.dflt) j))) (YZ 300 q50 ∧ bF q51 (bF q51 ((zr false q52 = true → YZ 300 q54) ∧ zZ q51
 (bF (!!zG (60 : Int) q53 || zr false q52) (zZ (bif zG (60 : Int) q53 then true else zG (40 : Int) (WT (zo q54))) q1 (bF (DB.db ((lN (y5 l z_1) + 1) * 32 ≤ 140737488355328)) (bF V6 (∃ (z' : Nat), ((z' ≤ lN (Zv l (lN l)) ∧ lN (Zv l (lN l)) - z' < lN (Zv l (lN l)) - z_1) ∧ q27 ∧ q28 ∧ (nat_lit 2 = 2 ∧ 0 = 0 ∧ lN (y5 l z') = lN (y5 l z_1) + 1) ∧ kI ∧ (cI z_1) + iO = (cI z')) ∧ q21 ∧ (49 : TypeId) = 49 ∧ 2 = 2 ∧ lN (y5 l z') = List.length
 (y5 l z_1) + 1 ∧ ∀ (i j : Nat), i < lN (y5 l z_1) + 1 → j < 2 → zd (if i < lN (y5 l z_1) then zR.enc (gD (y5 l z_1) i zR.dflt) j else Sx.rowAt [zw [AV.str q50, AV.str q54]] (i - lN (y5 l z_1)) j) (zR.enc (gD (y5 l z') i zR.dflt) j)))))) False))))) (zZ (zG (16 : Int) (lZ (y5 l z_1))) q1 (bF (Nat.beq (lN (y5 l z_1)) (lN (y5 l z_1)) && Nat.beq 2 2 && Nat.blt (nat_lit 2) (nat_lit 3) && Nat.beq 49 49) ((lN (y5 l z_1) < 4611686018427387904 ∧ ∀
 (i : Nat), i < lN (y5 l z_1) → (Ms fun (j : Nat) => zR.enc (gD (y5 l z_1) i zR.dflt) j) = true) ∧ ∀ (p : List Nat), List.Perm p (List.range (lN (y5 l z_1))) ∧ List.Pairwise (fun i j => ¬(TA (fun (j_1 : Nat) => zR.enc (gD (y5 l z_1) j zR.dflt) j_1) fun (j : Nat) => zR.enc (gD (y5 l z_1) i zR.dflt) j) < iZ) p → j2 ∧ (True ∧ zd (AV.xl false 2 (lN (y5 l z_1)) fun i j => zR.enc (gD (y5 l z_1) (gD p (0 + i) 0) zR.dflt) j) (AV.xl false 2 (lN (YQ l)) fun i j =>
 zR.enc (gD (YQ l) i zR.dflt) j)) ∧ kI ∧ iZ = iZ)))))) := by
 delta bF dK cI kI j2 lZ lN gD iZ iO
 dsimp only
 intro hb
 simp only [↓yU, ↓ZF, row_one]
 simp only [sS, Zu, za, zS, zF, Zz, ZC, Zr, dS]
 have hlen := h.len
 have mem : ∀ z, z < l.length → l.getD z zR.dflt ∈ l := fun z hz => ye hz
 have okq : ∀ q : Rat, (q ≠ 0 → lP (zW q)) → YZ 300 (zW q) := fun q hq => by
  by_cases h0 : q = 0
  ·rw [h0]; exact (Zh (by decide) (by decide)).2 ⟨by decide +kernel, by decide +kernel⟩
  ·exact (hq h0).ok.mono (by decide)
 refine ⟨fun h => by omega, fun _ => ⟨⟨0, Nat.zero_le _, rfl⟩, fun z hz => ⟨fun hlt => ?_, fun hge => ?_⟩⟩⟩
 ·have hm := mem z (by omega)
  have o1 : YZ 300 (zW (l.getD z zR.dflt).c) := (Zh (by decide) (by decide)).2 ((h.cs _ hm).mono (by decide))
  have o2 := okq _ (h.qs _ hm)
  have hm0 := um o2.1 (by rw [zS]; exact (h.root _ hm).1)
  rw [hm0]
  exact ⟨⟨by omega, by omega⟩, o1, o2, zX.2 ⟨fun c => (by cases c), fun _ => ⟨by simp only [yD]; omega, z + 1, ⟨by omega, by omega⟩, by omega⟩⟩⟩
 refine ⟨⟨0, ⟨Nat.zero_le _, rfl⟩, rfl, rfl⟩, fun z hz => ⟨fun hlt => ?_, fun hge => ?_⟩⟩
 ·have hz' : z < l.length := by omega
  have hm := mem z hz'
  obtain ⟨k1, k2⟩ := M6 h z
  have s0 := ot hz'
  have s1 := Oa hz'
  have hc := h.cs _ hm
  have hq := h.qs _ hm
  have hv := Pp h.root
  have hin : ¬((l.getD z zR.dflt).c = 0 ∨ (l.getD z zR.dflt).q = 0) → ZG RM (XP (l.getD z zR.dflt)) := fun hn => by
   refine hv.1 _ (List.mem_map.2 ⟨_, List.mem_filter.2 ⟨hm, ?_⟩, rfl⟩)
   simp only [not_or] at hn
   simp only [decide_eq_true_eq, Bool.and_eq_true]
   exact hn
  rw [x4, x4, u4]
  generalize l.getD z zR.dflt = t at *
  refine ⟨⟨by omega, by omega⟩, zX.2 ⟨fun c => ?_, fun c => ?_⟩⟩
  ·have c : t.c = 0 ∨ t.q = 0 := by simpa using c
   have e := s0 c
   exact ⟨by simp only [yD]; omega, z + 1, ⟨⟨by omega, by omega⟩, by omega⟩, by rw [e], by rw [e], fun i j _ _ => by rw [e]; exact zV _⟩
  have c : ¬(t.c = 0 ∨ t.q = 0) := by simpa using c
  have c2 := not_or.1 c
  have e := s1 c
  rw [PL] at e
  have hn := hin c
  rw [PL] at hn
  obtain ⟨r1, r2, r3⟩ := H3 (hq c2.2)
  refine ⟨zX.2 ⟨fun _ => ⟨hq c2.2, (nK t.q, nL t.q), ⟨⟨rfl, rfl⟩, rfl, rfl⟩, fun _ _ _ _ => trivial⟩, fun c3 => ⟨(nK t.q, nL t.q), ⟨⟨rfl, rfl⟩, ?_⟩, fun _ _ _ _ => trivial⟩⟩, fun y ⟨y1, y2⟩ => ?_⟩
  ·have c3 : t.q = 1 := by simpa using c3
   rw [c3, N2.1, N2.2]
   decide +kernel
  obtain ⟨ya, yb⟩ := y
  simp only at y1 y2 ⊢
  rw [← y1, ← y2] at e hn
  rw [← y1] at r3
  obtain ⟨b1, b2, b3, b4⟩ := WS hn (by decide)
  have b1 : bq 8 yb := b1
  have l90 : zG 90 (WT yb) = false := Bool.eq_false_iff.2 fun e => by
   have := (zp _ _).1 e
   have := vk (by decide) b1
   omega
  rw [l90]
  have okb : YZ 300 (zW yb) := (Zh (by decide) (by decide)).2 (b1.mono (by decide))
  have okc : YM 140 (zW t.c) (zW ya) := ⟨(Zh (by decide) (by decide)).2 (hc.mono (by decide)), (Zh (by decide) (by decide)).2 (r3.mono (by decide))⟩
  have hcb : bq 77 (t.c * ya) := Sl hc r3
  refine ⟨fun _ => okb, zX.2 ⟨fun c => (by cases c), fun _ => ⟨okc, ⟨0, ⟨⟨Nat.zero_le _, fun j hj => absurd hj (Nat.not_lt_zero _)⟩, rfl⟩, fun _ _ _ _ => trivial⟩, fun k ⟨q1, q2⟩ => ⟨fun kl => ?_, fun kg => ?_⟩⟩⟩⟩
  ·have hk : k < (Zv l z).length := by omega
   obtain ⟨x1, x2⟩ := k2 _ (ye hk)
   have sa := Pe (t := ⟨t.c * ya, yb⟩) (d := zR.dflt) (cl := Zv l z) (i := k) hk q2
   have ra := qf hn x1
   have rs := qf x1 hn
   have sy := Mv hn x1
   generalize hx0 : (Zv l z).getD k zR.dflt = x at *
   obtain ⟨xc, xq⟩ := x
   obtain ⟨f1, f2, f3, f4⟩ := WS x1 (by decide)
   have f1 : bq 8 xq := f1
   have okx : YZ 140 (zW xq) := (Zh (by decide) (by decide)).2 (f1.mono (by decide))
   have okb2 : YZ 140 (zW yb) := (Zh (by decide) (by decide)).2 (b1.mono (by decide))
   refine ⟨⟨by omega, by omega⟩, ra, zX.2 ⟨fun c => ?_, fun c => ⟨⟨⟨okb2, okx⟩, fun hlt2 => ?_, fun hge2 => ?_⟩, fun w hw => ?_⟩⟩⟩
   ·have c : yH yb xq = false := by simpa using c
    refine ⟨by simp only [yD]; omega, k + 1, ⟨⟨⟨by omega, fun j hj => ?_⟩, by omega⟩, by omega⟩, fun _ _ _ _ => trivial⟩
    by_cases ej : j = k
    ·subst ej
     rw [hx0]; exact c
    ·exact q2 j (by omega)
   ·have hl := (uD _ _).1 hlt2
    refine ⟨_, rfl, ?_⟩
    unfold YN
    rw [if_pos (show (⟨t.c * ya, yb⟩ : Tm).q < (⟨xc, xq⟩ : Tm).q from hl)]
    exact ⟨⟨fun _ _ _ _ => trivial, rfl, rfl⟩, rfl, rfl⟩
   ·have hge2 : 0 ≤ Xj yb xq := hge2
    have hl : ¬ yb < xq := fun e => by have := (uD _ _).2 e; omega
    refine ⟨_, rfl, ?_⟩
    unfold YN
    rw [if_neg (show ¬ (⟨t.c * ya, yb⟩ : Tm).q < (⟨xc, xq⟩ : Tm).q from hl)]
    exact ⟨⟨fun _ _ _ _ => trivial, rfl, rfl⟩, rfl, rfl⟩
   ·have c : yH yb xq = true := by simpa using c
    have sa := sa c
    have lh := kT ⟨xc, xq⟩ ⟨t.c * ya, yb⟩
    rw [← hw] at lh
    have hpl : Ho w.1 w.2 := by
     rw [hw]
     unfold YN
     split
     ·exact ⟨rs, sy c, hcb.mono (by decide), x2.mono (by decide)⟩
     ·exact ⟨ra, c, x2.mono (by decide), hcb.mono (by decide)⟩
    rw [← lh]
    refine ⟨hpl, ⟨by omega, by omega⟩, by simp only [yD]; omega, z + 1, ⟨⟨by omega, by omega⟩, by omega⟩, ?_, ?_, fun i j hi hj => ?_⟩
    ·rw [e, sa, List.length_set]
    ·rw [e, sa, List.length_set]
    ·rw [e, sa]
     exact gg _ _ _ hk i j hj
  ·have sn := sU (t := ⟨t.c * ya, yb⟩) (d := zR.dflt) (cl := Zv l z) fun j hj => q2 j (by omega)
   have fin : ((Zv l z).length + 1) * 32 ≤ 140737488355328 ∧ yD IntKind.i64 ((z : Int) + 1) ∧ ∃ z', ((z' ≤ l.length ∧ l.length - z' < l.length - z) ∧ (z : Int) + 1 = (z' : Int)) ∧ (Zv l z').length = (Zv l z).length + 1 ∧ (Zv l z').length = (Zv l z).length + 1 ∧
     ∀ (i j : Nat), i < (Zv l z).length + 1 → j < 2 → zd (if i < (Zv l z).length then zR.enc ((Zv l z).getD i zR.dflt) j else zw [AV.str (zW (t.c * ya)), AV.str (zW yb)] j) (zR.enc ((Zv l z').getD i zR.dflt) j) := by
    refine ⟨by omega, by simp only [yD]; omega, z + 1, ⟨⟨by omega, by omega⟩, by omega⟩, by rw [e, sn]; simp, by rw [e, sn]; simp, fun i j hi hj => ?_⟩
    rw [e, sn]
    exact PV _ ⟨t.c * ya, yb⟩ i j hi
   exact ⟨fin, fin⟩
 ·have hz' : z = l.length := by omega
  subst hz'
  obtain ⟨k1, k2⟩ := M6 h l.length
  refine ⟨⟨0, ⟨Nat.zero_le _, rfl, rfl⟩, fun _ _ _ _ => trivial, rfl⟩, fun y hy => ⟨fun yl => ?_, fun yg => ?_⟩⟩
  ·have hyl : y < (Zv l l.length).length := by omega
   have os := OU hyl
   obtain ⟨x1, x2⟩ := k2 _ (ye hyl)
   have ho : (y5 l y).length ≤ y := by
    unfold y5
    exact Nat.le_trans (List.length_filter_le _ _) (by rw [List.length_take]; omega)
   rw [x4]
   generalize (Zv l l.length).getD y zR.dflt = x at *
   obtain ⟨f1, f2, f3, f4⟩ := WS x1 (by decide)
   refine ⟨⟨by omega, by omega⟩, zX.2 ⟨fun c => ?_, fun c => ?_⟩⟩
   ·have c : x.c = 0 := by simpa using c
    rw [if_pos c, List.append_nil] at os
    exact ⟨by simp only [yD]; omega, y + 1, ⟨⟨by omega, by omega⟩, by rw [os], by omega⟩, fun _ _ _ _ => trivial, by rw [os], fun i j _ _ => by rw [os]; exact zV _⟩
   ·have c : x.c ≠ 0 := by simpa using c
    rw [if_neg c] at os
    have l60 : zG 60 (WT x.c) = false := Bool.eq_false_iff.2 fun e => by
     have := (zp _ _).1 e
     have := vk (by decide) x2
     omega
    have l40 : zG 40 (WT x.q) = false := Bool.eq_false_iff.2 fun e => by
     have := (zp _ _).1 e
     have := vk (by decide) f1
     omega
    rw [l60, l40]
    refine ⟨(Zh (by decide) (by decide)).2 (x2.mono (by decide)), fun _ => (Zh (by decide) (by decide)).2 (f1.mono (by decide)), zX.2 ⟨fun c => (by cases c), fun _ => ⟨by omega, by simp only [yD]; omega, y + 1, ⟨⟨by omega, by omega⟩, by rw [os]; simp, by omega⟩, fun _ _ _ _ => trivial, by rw [os]; simp, fun i j hi _ => ?_⟩⟩⟩
    rw [os]
    exact PV _ x i j hi
  ·have hye : y = (Zv l l.length).length := by omega
   subst hye
   rw [nh]
   have hmk : (YQ l).length = (Y7 l).length := (Xv (Y7 l)).length_eq
   have h16 := h.out
   refine ⟨fun h => by omega, fun _ => zX.2 ⟨fun _ => ⟨⟨by omega, fun i hi => ?_⟩, fun p ⟨p1, p2⟩ => ?_⟩, fun c => ?_⟩⟩
   ·have hm : (Y7 l).getD i zR.dflt ∈ Zv l l.length := by rw [re]; exact (List.mem_filter.1 (ye hi)).1
    obtain ⟨x1, _⟩ := k2 _ hm
    obtain ⟨f1, f2, f3, f4⟩ := WS x1 (by decide)
    unfold Ms
    have e1 : zR.dec (α := Tm) (fun j => zR.enc ((Y7 l).getD i zR.dflt) j) = (Y7 l).getD i zR.dflt := Yy.dec _
    have e2 : zR.ok (α := Tm) (fun j => zR.enc ((Y7 l).getD i zR.dflt) j) = true := Yy.ok _
    rw [e1, e2, Bool.true_and, Bool.and_eq_true]
    exact ⟨Nat.ble_eq_true_of_le f4, Nat.ble_eq_true_of_le (by rw [f3]; decide)⟩
   ·have hP := Lb h p1 p2
    have hpl : p.length = (Y7 l).length := by rw [p1.length_eq, List.length_range]
    refine ⟨rfl, fun h => h, rfl, hmk, fun i j hi hj => ?_⟩
    have : (p.map fun i => (Y7 l).getD i zR.dflt).getD i zR.dflt = (Y7 l).getD (p.getD i 0) zR.dflt := by
     simp [List.getD_eq_getElem?_getD, List.getElem?_map, List.getElem?_eq_getElem (show i < p.length by omega)]
    show zd (zR.enc ((Y7 l).getD (p.getD i 0) zR.dflt) j) (zR.enc ((YQ l).getD i zR.dflt) j)
    rw [hP, this]
    exact zV _
   ·rw [Nat.beq_refl] at c; cases c
theorem HE {G : List (Nat × Obj)} (hG : zO G) (l : List Tm) (h : Vw l) : zu Tryz.prog G 20 [ZA l] (.tup 2 (zw [ZA (YQ l), .i 0])) :=
 zv (T := GE G l) (an := jg l) mixed (O5 hG l) (Eq.mp (by kernel_rfl) (J9 G l h))
theorem ma {G : List (Nat × Obj)} (hG : zO G) : zP Tryz.prog G 20 rI := by
 intro xs ps r h hp
 unfold rI at h
 split at h
 ·skip
  rename_i x_l
  cases h
  obtain ⟨q0, q1, -⟩ := Zo hp
  exact weaken (ys := [ZA (Z5 (α := Tm) x_l)]) ⟨ze q0, trivial⟩ (HE hG (Z5 (α := Tm) x_l) q1)
 ·cases h
end Go.Te
