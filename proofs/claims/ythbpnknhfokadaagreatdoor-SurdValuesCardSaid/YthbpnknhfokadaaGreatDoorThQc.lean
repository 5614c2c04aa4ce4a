/- root: the normal form and the ratio of roots, of numbers with few digits. -/
import Derived.Test.YthbpnknhfokadaaGreatDoorThQa
import Derived.Test.YthbpnknhfokadaaGreatDoorArZ
import Derived.Shelf.SlLaysF0
import Derived.Shelf.SlSortCmp.NoneTotal
import Derived.Test.YthbpnknhfokadaaGreatDoorSxSo
import Derived.Test.YthbpnknhfokadaaGreatDoorThS
import Derived.Test.YthbpnknhfokadaaGreatDoorProg
import Derived.Test.YthbpnknhfokadaaGreatDoorThIf
set_option linter.unusedSimpArgs false
set_option linter.unusedVariables false
namespace Go.Te
open Go Go.Sx Go.Proofs Go.Ar
set_option maxRecDepth 100000
set_option maxHeartbeats 4000000
def SS : List AV → Option (List zN × AV)
 | [.v (.int .i64 n), .v (.int .i64 d)] => some ([.p (0 < n), .p (0 < d ∧ d ≤ 10000000000000000), .p (n * d ≤ 100000000000000000)], .tup 2 (zw [.str (ZX (nrm (n * d).toNat).1 d.toNat), .str (Lib.itoa (nrm (n * d).toNat).2)]))
 | _ => none
theorem Ls {G : List (Nat × Obj)} (hG : zo G) : zp Tryz.prog G 124 SS := by
 intro xs ps r h hp
 unfold SS at h
 split at h
 ·rename_i n d
  cases h
  obtain ⟨q0, q1, q2, -⟩ := ZI hp
  have hs := oJ hG
  obtain ⟨_, t, fr, G', rfl⟩ := hG
  exact zW mixed hs (Eq.mp (by kernel_rfl) (Mr t fr G' n d q0 q1 q2) : vR Tryz.prog (gP ((2, Obj.cells zO t fr) :: G')) 124 (mb (n * d).toNat) [.i n, .i d] (.tup 2 (zw [.str (ZX (nrm (n * d).toNat).1 d.toNat), .str (Lib.itoa (nrm (n * d).toNat).2)])))
 ·cases h
theorem T5 {a : zj} (h : zh a = 0) (h0 : 0 ≤ ze a) : zk a = false := by
 have h2 := Rat.num_nonneg.2 h0
 rw [(Z0 h).1] at h2
 have := (sE (a := a)).1
 cases hm : zk a with
 | false => rfl
 | true =>
  rw [hm, cond_true] at this
  have hz : zL a = 0 := by omega
  have e := X8 (Zr.1 h).1
  rw [hz] at e
  rw [← e] at hm
  have : ∀ r : zj, zk (Lib.itoa ((0 : Nat) : Int) ++ r) = false := fun r => by rw [Go.Ar.Z6, zA (by omega)]; rfl
  have := this (bif Nat.beq (zP a) 1 then [] else 47 :: Lib.decDigits (zP a))
  unfold Yn at hm
  rw [show Lib.itoa (0 : Int) = Lib.itoa ((0 : Nat) : Int) from rfl, this] at hm
  cases hm
theorem L1 {n : Int} (h : 0 ≤ n) : zk (Lib.itoa n) = false ∧ zR (Lib.itoa n) = Lib.itoa n := by
 obtain ⟨m, rfl⟩ : ∃ m : Nat, n = m := ⟨n.toNat, by omega⟩
 have hd := (Zt.1 (YV m))
 have hm : zk (Lib.itoa (m : Int)) = false := by
  rw [Go.Ar.Z6]
  match hq : Lib.decDigits m, hd with
  | c :: r, hd =>
   have := y9.1 (hd.2.1 c List.mem_cons_self)
   exact beq_eq_false_iff_ne.2 fun e => by subst e; exact absurd this.1 (by decide)
 refine ⟨hm, ?_⟩
 unfold zR
 rw [hm]; rfl
theorem T6 (n : Int) : (zR (Lib.itoa n)).length = x5 n := by
 by_cases h : 0 ≤ n
 ·rw [(L1 h).2, Xz, if_neg (by omega)]; rfl
 ·have e : Lib.itoa n = 45 :: Lib.decDigits n.natAbs := by
   have := Go.Ar.itoa_neg (n := n.natAbs) (by omega)
   rw [show -((n.natAbs : Nat) : Int) = n by omega] at this
   exact this
  rw [e]
  show (Lib.decDigits n.natAbs).length = _
  rw [Lib.decDigits_length]; rfl
def IF (r : AV) : List AV → Option (List zN × AV) := fun _ => some ([.p False], r)
theorem pT {P : Program} {G : List (Nat × Obj)} {f : FuncId} (r : AV) : zp P G f (IF r) := by
 intro xs ps r' h hp
 cases h
 exact (hp _ List.mem_cons_self).elim
def rq : List AV → Option (List zN × AV)
 | [.str a] => some ([.p (Yo 300 a)], .agg 2 (zw [.str (Lib.itoa (ze a).num), .str (Lib.itoa ((ze a).den : Int))]))
 | _ => none
theorem jY (G : List (Nat × Obj)) (a : List UInt8) (hr : Yo 300 a) :
 Zw [AV.str a] → Yo 300 a ∧ 2 = 2 ∧ Lib.itoa (Rat.num (ze a)) = Lib.itoa (Rat.num (ze a)) ∧ Lib.itoa (cI (Rat.den (ze a))) = Lib.itoa (cI (Rat.den (ze a))) := by
 delta cI
 intro hb
 simp only [sS, dS]
 exact hr
theorem IV {G : List (Nat × Obj)} (hG : zo G) (a : List UInt8) (hr : Yo 300 a) : zt Tryz.prog G 112 [.str a] (.agg 2 (zw [.str (Lib.itoa (ze a).num), .str (Lib.itoa ((ze a).den : Int))])) :=
 zW (T := (WS G).plus 85 SL) (an := .auto) mixed (zz.plus zQ (QL hG)) (Eq.mp (by kernel_rfl) (jY G a hr))
theorem m8 {G : List (Nat × Obj)} (hG : zo G) : zp Tryz.prog G 112 rq := by
 intro xs ps r h hp
 unfold rq at h
 split at h
 ·skip
  rename_i a
  cases h
  obtain ⟨q0, -⟩ := ZI hp
  exact weaken (ys := [.str a]) ⟨zS _, trivial⟩ (IV hG a q0)
 ·cases h
def uV : List AV → Option (List zN × AV)
 | [.str m] => some ([.p (Zy m = true), .p (m.length ≤ 17)], .tup 2 (zw [.i (zY m), .b true]))
 | _ => none
theorem Mu (m : List UInt8) (hi : Zy m = true) (hl : m.length ≤ 17) :
 Zw [AV.str m] → zZ (zg (17 : Int) (lZ m)) (j2 ∧ (True ∧ kI ∧ iZ = zY m) ∧ false = true) (bF (Zy m) (lN m ≤ 18 ∧ j2 ∧ (True ∧ kI ∧ zY m = zY m) ∧ true = true)) := by
 delta bF kI j2 lZ lN iZ
 intro hb
 simp only [sS, dS]
 refine ⟨fun h => by omega, fun _ => ?_⟩
 rw [hi]
 exact ⟨by omega, rfl⟩
theorem kx (m : List UInt8) (hi : Zy m = true) (hl : m.length ≤ 17) : zt Tryz.prog [] 123 [.str m] (.tup 2 (zw [.i (zY m), .b true])) :=
 zW (T := T0.plus 145 Vx) (an := .auto) mixed (zz.plus zQ sH) (Eq.mp (by kernel_rfl) (Mu m hi hl))
theorem PP : zp Tryz.prog [] 123 uV := by
 intro xs ps r h hp
 unfold uV at h
 split at h
 ·skip
  rename_i m
  cases h
  obtain ⟨q0, q1, -⟩ := ZI hp
  exact weaken (ys := [.str m]) ⟨zS _, trivial⟩ (kx m q0 q1)
 ·cases h
def sU : List AV → Option (List zN × AV)
 | [.str s, .str p] => some ([.b (p == [45]), .p (zk s = false)], .b false)
 | _ => none
theorem La : zp Tryz.prog [] 44 sU := by
 intro xs ps r h hp
 unfold sU at h
 split at h
 ·rename_i s p
  cases h
  have q : (p == [45]) = true := hp _ List.mem_cons_self
  have q1 : zk s = false := hp _ (List.mem_cons_of_mem _ List.mem_cons_self)
  have : zt Tryz.prog [] 44 [.str s, .str p] (.b (zk s)) := SR [.str s, .str p] _ _ rfl fun c hc => by
   rw [List.mem_singleton] at hc
   rw [hc]; exact q
  rw [q1] at this
  exact this
 ·cases h
noncomputable def HH (G : List (Nat × Obj)) : Tb := (((((WS G).plus 43 sY).plus 112 rq).plus 95 (YL fun s => .str (zR s))).plus 44 sU).body Tryz.prog [(154, .auto)]
theorem T3 {G : List (Nat × Obj)} (hG : zo G) : zz Tryz.prog (HH G) := zz.body mixed (zz.plus (zz.plus (zz.plus (zz.plus zQ (R7 hG)) (m8 hG)) (zp.mono vU)) (zp.mono La)) _
def lP  : yt :=
 .two .auto (.two (.two .auto (.one (.unroll 2 .auto))) (.two (.two .auto (.one (.unroll 2 .auto))) .auto))
def kp  : yt :=
 .two .auto (.two (.two .auto (.one (.unroll 3 .auto))) (.two (.two .auto (.one (.unroll 3 .auto))) .auto))
theorem nu {x : Rat} (h : bq 90 x) : (zR (Lib.itoa x.num)).length ≤ 90 ∧ (Lib.itoa (x.den : Int)).length ≤ 90 := by
 rw [T6, Go.Ar.Z6, Lib.decDigits_length]
 exact ⟨xM (by decide) h.1, (Zx (by decide)).2 h.2⟩
structure oP (a : zj) : Prop where
 ok : Yo 90 a
 pos : 0 ≤ ze a
theorem rZ {a : zj} (h : oP a) : Yo 300 a ∧ (zR (Lib.itoa (ze a).num)).length ≤ 90 ∧ (Lib.itoa ((ze a).den : Int)).length ≤ 90 ∧ zk a = false := ⟨h.1.mono (by decide), (nu h.1.2).1, (nu h.1.2).2, T5 h.1.1 h.2⟩
theorem L4 (G : List (Nat × Obj)) (a : zj) (ha : oP a) :
 let q1 := (lZ (Lib.itoa (cI (Rat.den (ze a))))); let q2 := (lZ (zR (Lib.itoa (Rat.num (ze a))))); Zw [AV.xl false 1 1 fun (x x_1 : Nat) => AV.str a, AV.xl false 1 1 fun (x x_1 : Nat) => AV.str a] → Yo 300 a ∧ Yo 300 a ∧ zZ (zg (90 : Int) (if q1 > q2 then q1 else q2)) (kI ∧ (4 : Int) = iZ) (zk a = false ∧ kI ∧ iZ = iZ) := by
 delta cI kI lZ iZ
 dsimp only
 intro hb
 simp only [sS, dS]
 obtain ⟨a1, a2, a3, a4⟩ := rZ ha
 exact ⟨a1, a1, fun h => by split at h <;> omega, fun _ => a4⟩
theorem LX (G : List (Nat × Obj)) (a b : zj) (ha : oP a) (hc : oP b) :
 let q1 := (lZ (Lib.itoa (cI (Rat.den (ze a))))); let q2 := (lZ (zR (Lib.itoa (Rat.num (ze a))))); let q3 := (kI ∧ (4 : Int) = iZ); let q4 := (lZ (Lib.itoa (cI (Rat.den (ze b))))); let q5 := (lZ (zR (Lib.itoa (Rat.num (ze b))))); Zw [AV.xl false 1 2 fun (i x : Nat) => zw [AV.str a, AV.str b] i, AV.xl false 1 2 fun (i x : Nat) => zw [AV.str a, AV.str b] i] → Yo 300 a ∧ Yo 300 a ∧ zZ (zg (90 : Int) (if q1 > q2 then q1 else q2)) q3 (Yo 300 b ∧ Yo 300 b ∧ zZ (zg (90
 : Int) (if q4 > q5 then q4 else q5)) q3 (zk a = false ∧ zk b = false ∧ kI ∧ iZ = iZ)) := by
 delta cI kI lZ iZ
 dsimp only
 intro hb
 simp only [sS, dS]
 obtain ⟨a1, a2, a3, a4⟩ := rZ ha
 obtain ⟨b1, b2, b3, b4⟩ := rZ hc
 exact ⟨a1, a1, fun h => by split at h <;> omega, fun _ => ⟨b1, b1, fun h => by split at h <;> omega, fun _ => ⟨a4, b4⟩⟩⟩
theorem pX {f : Bool} {x : Nat → Nat → AV} {a : zj} (h : Zk (x 0 0) = true) (e : AV.bytes (x 0 0) = a) : zd (.xl f 1 1 x) (.xl false 1 1 fun _ _ => .str a) := by
 refine ⟨(fun h => by cases h), rfl, rfl, fun i j hi hj => ?_⟩
 obtain rfl : i = 0 := by omega
 obtain rfl : j = 0 := by omega
 rw [← e]
 exact ZT (x7 h)
theorem pq {f : Bool} {x : Nat → Nat → AV} {a b : zj} (h : Zk (x 0 0) = true) (h2 : Zk (x 1 0) = true) (e : AV.bytes (x 0 0) = a) (e2 : AV.bytes (x 1 0) = b) : zd (.xl f 1 2 x) (.xl false 1 2 fun i _ => zw [.str a, .str b] i) := by
 refine ⟨(fun h => by cases h), rfl, rfl, fun i j hi hj => ?_⟩
 obtain rfl : j = 0 := by omega
 rw [← e, ← e2]
 match i, hi with
 | 0, _ => exact ZT (x7 h)
 | 1, _ => exact ZT (x7 h2)
def pZ : List AV → Option (List zN × AV)
 | [.xl _ 1 1 x, .xl _ 1 1 y] => some ([.b (Zk (x 0 0) && Zk (y 0 0) && (AV.bytes (y 0 0) == AV.bytes (x 0 0))), .p (oP (AV.bytes (x 0 0)))], .i 0)
 | [.xl _ 1 2 x, .xl _ 1 2 y] => some ([.b (Zk (x 0 0) && Zk (x 1 0) && Zk (y 0 0) && Zk (y 1 0) && (AV.bytes (y 0 0) == AV.bytes (x 0 0)) && (AV.bytes (y 1 0) == AV.bytes (x 1 0))), .p (oP (AV.bytes (x 0 0))), .p (oP (AV.bytes (x 1 0)))], .i 0)
 | _ => none
theorem KG {G : List (Nat × Obj)} (hG : zo G) : zp Tryz.prog G 110 pZ := by
 intro xs ps r h hp
 unfold pZ at h
 split at h
 ·rename_i x _ y
  cases h
  have q0 : (Zk (x 0 0) && Zk (y 0 0) && (AV.bytes (y 0 0) == AV.bytes (x 0 0))) = true := hp _ List.mem_cons_self
  have q1 := hp _ (List.mem_cons_of_mem _ List.mem_cons_self)
  simp only [Bool.and_eq_true, beq_iff_eq] at q0
  exact weaken (ys := [_, _]) ⟨pX q0.1.1 rfl, pX q0.1.2 q0.2, trivial⟩ (zW mixed (T3 hG) (Eq.mp (by kernel_rfl) (L4 G (AV.bytes (x 0 0)) q1) : vR Tryz.prog (HH G) 110 lP [.xl false 1 1 (fun _ _ => .str (AV.bytes (x 0 0))), .xl false 1 1 (fun _ _ => .str (AV.bytes (x 0 0)))] (.i 0)))
 ·rename_i x _ y
  cases h
  have q0 : (Zk (x 0 0) && Zk (x 1 0) && Zk (y 0 0) && Zk (y 1 0) && (AV.bytes (y 0 0) == AV.bytes (x 0 0)) && (AV.bytes (y 1 0) == AV.bytes (x 1 0))) = true := hp _ List.mem_cons_self
  have q1 := hp _ (List.mem_cons_of_mem _ List.mem_cons_self)
  have q2 := hp _ (List.mem_cons_of_mem _ (List.mem_cons_of_mem _ List.mem_cons_self))
  simp only [Bool.and_eq_true, beq_iff_eq] at q0
  exact weaken (ys := [_, _]) ⟨pq q0.1.1.1.1.1 q0.1.1.1.1.2 rfl rfl, pq q0.1.1.1.2 q0.1.1.2 q0.1.2 q0.2, trivial⟩ (zW mixed (T3 hG) (Eq.mp (by kernel_rfl) (LX G (AV.bytes (x 0 0)) (AV.bytes (x 1 0)) q1 q2) : vR Tryz.prog (HH G) 110 kp [.xl false 1 2 (fun i _ => zw [.str (AV.bytes (x 0 0)), .str (AV.bytes (x 1 0))] i), .xl false 1 2 (fun i _ => zw [.str (AV.bytes (x 0 0)), .str (AV.bytes (x 1 0))] i)] (.i 0)))
 ·cases h
theorem qu (n : Int) : 0 < x5 n := by
 unfold x5
 rw [← Lib.decDigits_length]
 exact yL _
theorem wI (n : Int) : n.natAbs < 10 ^ x5 n := (Zx (qu n)).1 (Nat.le_refl _)
theorem RJ {n : Int} (h : n ≠ 0) : (Lib.itoa n == [48]) = false := beq_eq_false_iff_ne.2 fun e => by
 have := (zC n).2
 rw [e] at this
 have h0 : zY [48] = 0 := by decide
 omega
theorem w5 (k : Nat) : zT (k : Rat) = Lib.itoa (k : Int) := by rw [← Rat.intCast_natCast, UB]
structure MK (a : zj) : Prop where
 ok : Yo 90 a
 pos : 0 < ze a
 len : x5 (ze a).num + Lib.nDigits (ze a).den ≤ 17
noncomputable def H2 (G : List (Nat × Obj)) : Tb := ((((((WS G).plus 110 pZ).plus 112 rq).plus 123 uV).plus 124 SS).plus 125 (IF (.str []))).plus 126 (IF .junk)
theorem oY {G : List (Nat × Obj)} (hG : zo G) : zz Tryz.prog (H2 G) := zz.plus (zz.plus (zz.plus (zz.plus (zz.plus (zz.plus zQ (KG hG)) (m8 hG)) (zp.mono PP)) (Ls hG)) (pT _)) (pT _)
def nK (x : Rat) : Rat := mkRat (nrm (mQ x)).1 x.den
def nL (x : Rat) : Rat := ((nrm (mQ x)).2 : Rat)
def uY : List AV → Option (List zN × AV)
 | [.str q] => some ([.p (MK q)], .tup 3 (zw [.str (zT (nK (ze q))), .str (zT (nL (ze q))), .i 0]))
 | _ => none
theorem MX (G : List (Nat × Obj)) (q : List UInt8) (hr : MK q) :
 Zw [AV.str q] → zZ (Zk (AV.str q) && Zk (AV.str q) && AV.bytes (AV.str q) == AV.bytes (AV.str q)) (oP (AV.bytes (AV.str q)) ∧ Yo 300 q ∧ zZ (Lib.itoa (Rat.num (ze q)) == bA #[(48 : UInt8)]) (3 = lN [AV.junk, AV.junk, AV.junk] ∧ ((True ∧ bA #[(48 : UInt8)] = zT (nK (ze q))) ∧ bA #[(49 : UInt8)] = zT (nL (ze q))) ∧ kI ∧ iZ = iZ) (bF (DB.db (yP .i64 ((lZ (Lib.itoa (Rat.num (ze q)))) +
 (lZ (Lib.itoa (cI (Rat.den (ze q)))))))) (zZ (leB ((lZ (Lib.itoa (Rat.num (ze q)))) + (lZ (Lib.itoa (cI (Rat.den (ze q)))))) (17 : Int)) (Zy (Lib.itoa (Rat.num (ze q))) = true ∧ lN (Lib.itoa (Rat.num (ze q))) ≤ 17 ∧ Zy (Lib.itoa (cI (Rat.den (ze q)))) = true ∧ lN (Lib.itoa (cI (Rat.den (ze q)))) ≤ 17 ∧ iZ < zY (Lib.itoa (Rat.num (ze q))) ∧ (iZ < zY (Lib.itoa (cI (Rat.den (ze q)))) ∧ zY (Lib.itoa (cI (Rat.den (ze q)))) ≤ (10000000000000000 : Int)) ∧ zY (Lib.itoa
 (Rat.num (ze q))) * zY (Lib.itoa (cI (Rat.den (ze q)))) ≤ (100000000000000000 : Int) ∧ 3 = lN [AV.junk, AV.junk, AV.junk] ∧ ((True ∧ ZX (↑(Prod.fst (nrm (Int.toNat (zY (Lib.itoa (Rat.num (ze q))) * zY (Lib.itoa (cI (Rat.den (ze q)))))))) : Int) (Int.toNat (zY (Lib.itoa (cI (Rat.den (ze q)))))) = zT (nK (ze q))) ∧ Lib.itoa (↑(Prod.snd (nrm (Int.toNat (zY (Lib.itoa (Rat.num (ze q))) * zY (Lib.itoa (cI (Rat.den (ze q)))))))) : Int) = zT (nL (ze q))) ∧ kI ∧ iZ = iZ) (False ∧ False ∧ Zd (Operand.tmp 66)))))
 False := by
 delta bF bA cI kI lZ lN iZ
 intro hb
 simp only [sS, dS]
 have hc : oP q := ⟨hr.ok, Rat.le_of_lt hr.pos⟩
 have c1 : (Zk (AV.str q) && Zk (AV.str q) && (AV.str q).bytes == (AV.str q).bytes) = true := by
  show (true && true && (q == q)) = true
  simp
 have h300 := hr.ok.mono (k := 300) (by decide)
 have hl := hr.len
 have hp := hr.pos
 generalize ze q = x at *
 have hn : 0 < x.num := by
  have := Rat.num_nonneg.2 (Rat.le_of_lt hp)
  have h2 : x.num ≠ 0 := fun e => (Rat.ne_of_gt hp) (Rat.num_eq_zero.1 e)
  omega
 have hd := x.den_pos
 have l1 : (Lib.itoa x.num).length = x5 x.num := by rw [Xz, if_neg (by omega)]; rfl
 have l2 : (Lib.itoa (x.den : Int)).length = Lib.nDigits x.den := by rw [Go.Ar.Z6, Lib.decDigits_length]
 have b1 := wI x.num
 have b2 := wI (x.den : Int)
 have e2 : x5 (x.den : Int) = Lib.nDigits x.den := by unfold x5; rw [Int.natAbs_natCast]
 rw [e2, Int.natAbs_natCast] at b2
 have b3 : x.num.natAbs * x.den < 10 ^ 17 := by
  refine Nat.lt_of_lt_of_le (Nat.mul_lt_mul'' b1 b2) ?_
  rw [← Nat.pow_add]
  exact Nat.pow_le_pow_right (by omega) hl
 have p1 := qu x.num
 have b4 : x.den < 10 ^ 16 := Nat.lt_of_lt_of_le b2 (Nat.pow_le_pow_right (by omega) (by omega))
 rw [show 10 ^ 16 = 10000000000000000 from by decide] at b4
 rw [show 10 ^ 17 = 100000000000000000 from by decide] at b3
 have i1 := zC x.num
 have i2 := zC (x.den : Int)
 have z1 : (Lib.itoa x.num == [48]) = false := RJ (by omega)
 have em : (x.num * (x.den : Int)).toNat = mQ x := by
  unfold mQ
  obtain ⟨N, hN⟩ : ∃ N : Nat, x.num = N := ⟨x.num.toNat, by omega⟩
  rw [hN, ← Int.natCast_mul, Int.toNat_natCast, Int.toNat_natCast]
 have eb : x.num * (x.den : Int) ≤ 100000000000000000 := by
  obtain ⟨N, hN⟩ : ∃ N : Nat, x.num = N := ⟨x.num.toNat, by omega⟩
  rw [hN, Int.natAbs_natCast] at b3
  rw [hN, ← Int.natCast_mul]
  omega
 rw [i1.2, i2.2, em, l1, l2, z1]
 refine zX.2 ⟨fun _ => ⟨hc, h300, ?_⟩, fun c => by rw [c1] at c; cases c⟩
 show yP .i64 _ ∧ _
 refine ⟨by simp only [yP]; omega, fun _ => ⟨i1.1, by omega, i2.1, by omega, hn, ⟨by omega, by omega⟩, eb, rfl, ?_, ?_⟩, fun h => by omega⟩
 ·rw [Int.toNat_natCast, Yi _ hd]; rfl
 ·exact (w5 _).symm
theorem lA {G : List (Nat × Obj)} (hG : zo G) (q : List UInt8) (hr : MK q) : zt Tryz.prog G 83 [.str q] (.tup 3 (zw [.str (zT (nK (ze q))), .str (zT (nL (ze q))), .i 0])) :=
 zW (T := H2 G) (an := .auto) mixed (oY hG) (Eq.mp (by kernel_rfl) (MX G q hr))
theorem pc {G : List (Nat × Obj)} (hG : zo G) : zp Tryz.prog G 83 uY := by
 intro xs ps r h hp
 unfold uY at h
 split at h
 ·skip
  rename_i q
  cases h
  obtain ⟨q0, -⟩ := ZI hp
  exact weaken (ys := [.str q]) ⟨zS _, trivial⟩ (lA hG q q0)
 ·cases h
noncomputable def Ha (G : List (Nat × Obj)) : Tb := (((ni G).plus 123 uV).plus 166 uP).plus 117 (IF (.tup 2 (zw [.str [], .i 0]))) |>.plus 125 (IF (.str []))
theorem OM {G : List (Nat × Obj)} (hG : zo G) : zz Tryz.prog (Ha G) := zz.plus (zz.plus (zz.plus (zz.plus (Yy hG) (zp.mono PP)) (zp.mono pm)) (pT _)) (pT _)
def Qx : List AV → Option (List zN × AV)
 | [.str m] => some ([.p (Zy m = true), .p (m.length ≤ 17), .p (0 ≤ zY m)], .tup 2 (zw [.str (Lib.itoa (yA (zY m).toNat : Int)), .b (Nat.beq (yA (zY m).toNat * yA (zY m).toNat) (zY m).toNat)]))
 | _ => none
theorem lC (G : List (Nat × Obj)) (m : List UInt8) (hi : Zy m = true) (hl : m.length ≤ 17) (h0 : 0 ≤ zY m) :
 Zw [AV.str m] → Zy m = true ∧ lN m ≤ 17 ∧ (iZ ≤ zY m ∧ zY m ≤ (1000000000000000000 : Int)) ∧ (iN ≤ (cI (yA (Int.toNat (zY m)))) ∧ (cI (yA (Int.toNat (zY m)))) ≤ iX) ∧ bF (DB.db (yP .i64 ((cI (yA (Int.toNat (zY m)))) * (cI (yA (Int.toNat (zY m))))))) (j2 ∧ (True ∧ Lib.itoa (cI (yA (Int.toNat (zY m)))) = Lib.itoa (cI (yA (Int.toNat (zY m))))) ∧ ((cI (yA (Int.toNat (zY m)))) * (cI (yA (Int.toNat (zY m)))) == zY m) = Nat.beq (yA
 (Int.toNat (zY m)) * yA (Int.toNat (zY m))) (Int.toNat (zY m))) := by
 delta bF cI j2 lN iZ iX iN
 intro hb
 simp only [sS, dS]
 obtain ⟨m', hm⟩ : ∃ k : Nat, zY m = k := ⟨(zY m).toNat, by omega⟩
 have hb2 : (zY m).natAbs < 10 ^ 17 := Nat.lt_of_lt_of_le (Oq hi) (Nat.pow_le_pow_right (by omega) hl)
 rw [show 10 ^ 17 = 100000000000000000 from by decide] at hb2
 rw [hm, Int.natAbs_natCast] at hb2
 rw [hm, Int.toNat_natCast]
 obtain ⟨s1, s2⟩ := xO (n := m') (by omega)
 have hr : yA m' < 1000000000 := X2 (by omega)
 refine ⟨hi, hl, ⟨by omega, by omega⟩, ⟨by omega, by omega⟩, by rw [← Int.natCast_mul]; simp only [yP]; omega, rfl, ?_⟩
 rw [← Int.natCast_mul, Bool.eq_iff_iff, beq_iff_eq, Nat.beq_eq]
 omega
theorem Jc {G : List (Nat × Obj)} (hG : zo G) (m : List UInt8) (hi : Zy m = true) (hl : m.length ≤ 17) (h0 : 0 ≤ zY m) : zt Tryz.prog G 127 [.str m] (.tup 2 (zw [.str (Lib.itoa (yA (zY m).toNat : Int)), .b (Nat.beq (yA (zY m).toNat * yA (zY m).toNat) (zY m).toNat)])) :=
 zW (T := Ha G) (an := .auto) mixed (OM hG) (Eq.mp (by kernel_rfl) (lC G m hi hl h0))
theorem jq {G : List (Nat × Obj)} (hG : zo G) : zp Tryz.prog G 127 Qx := by
 intro xs ps r h hp
 unfold Qx at h
 split at h
 ·skip
  rename_i m
  cases h
  obtain ⟨q0, q1, q2, -⟩ := ZI hp
  exact weaken (ys := [.str m]) ⟨zS _, trivial⟩ (Jc hG m q0 q1 q2)
 ·cases h
structure Kg (p q : zj) : Prop where
 fp : oP p
 fq : oP q
 pos : 0 < ze q
 num : x5 (ze p / ze q).num ≤ 17
 den : Lib.nDigits (ze p / ze q).den ≤ 17
noncomputable def gu (G : List (Nat × Obj)) : Tb := ((((WS G).plus 110 pZ).plus 112 rq).plus 66 NV).plus 127 Qx |>.body Tryz.prog [(111, .auto), (128, .auto)] |>.body Tryz.prog [(111, .auto)]
theorem om {G : List (Nat × Obj)} (hG : zo G) : zz Tryz.prog (gu G) := zz.body mixed (zz.body mixed (zz.plus (zz.plus (zz.plus (zz.plus zQ (KG hG)) (m8 hG)) (jy hG)) (jq hG)) _) _
def Ug : List AV → Option (List zN × AV)
 | [.str p, .str q] => some ([.p (Kg p q)], .tup 3 (zw [.str (bif yE (ze p) (ze q) then zT (wm (ze p) (ze q)) else []), .b (yE (ze p) (ze q)), .i 0]))
 | _ => none
theorem LF (G : List (Nat × Obj)) (p : List UInt8) (q : List UInt8) (hr : Kg p q) :
 let q1 := ((True ∧ bA #[] = bif yE (ze p) (ze q) then zT (wm (ze p) (ze q)) else []) ∧ false = yE (ze p) (ze q)); let q2 := (Lib.itoa (Rat.num (ze (zT (ze p / ze q))))); let q3 := (Lib.itoa (cI (Rat.den (ze (zT (ze p / ze q)))))); let q5 := (Int.toNat (zY q2)); let q4 := (yA q5 * yA q5); let q6 := (Int.toNat (zY q3)); let q7 := (Lib.itoa (cI (yA q5))); let q8 := (Lib.itoa (cI (yA q6))); Zw [AV.str p, AV.str q] → bF (Zk (AV.str p) && Zk (AV.str q) && Zk (AV.str p) && Zk (AV.str q) && AV.bytes
 (AV.str p) == AV.bytes (AV.str p) && AV.bytes (AV.str q) == AV.bytes (AV.str q)) (oP (AV.bytes (AV.str p)) ∧ oP (AV.bytes (AV.str q)) ∧ zZ (q == bA #[(48 : UInt8)]) (3 = lN [AV.junk, AV.junk, AV.junk] ∧ q1 ∧ kI ∧ (12 : Int) = iZ) (HZ p q ∧ Yo 300 (zT (ze p / ze q)) ∧ Zy q2 = true ∧ lN q2 ≤ 17 ∧ iZ ≤ zY q2 ∧ Zy q3 = true ∧ lN q3 ≤ 17 ∧ iZ ≤ zY q3 ∧ bF (!zr false !Nat.beq q4 q5 || zr false !Nat.beq q4 q5) (zZ (!!!Nat.beq q4 q5 || zr false !Nat.beq q4 q5)
 (zZ (bif !Nat.beq q4 q5 then true else !Nat.beq (yA q6 * yA q6) q6) (3 = lN [AV.junk, AV.junk, AV.junk] ∧ q1 ∧ kI ∧ iZ = iZ) (HZ q7 q8 ∧ 3 = lN [AV.junk, AV.junk, AV.junk] ∧ ((True ∧ zT (ze q7 / ze q8) = bif yE (ze p) (ze q) then zT (wm (ze p) (ze q)) else []) ∧ true = yE (ze p) (ze q)) ∧ kI ∧ iZ = iZ)) False))) := by
 delta bF bA cI kI lN iZ
 dsimp only
 intro hb
 simp only [sS, dS]
 have c1 : (Zk (AV.str p) && Zk (AV.str q) && Zk (AV.str p) && Zk (AV.str q) && (AV.str p).bytes == (AV.str p).bytes && (AV.str q).bytes == (AV.str q).bytes) = true := by
  show (true && true && true && true && (p == p) && (q == q)) = true
  simp
 have hz : (q == [48]) = false := beq_eq_false_iff_ne.2 fun e => by
  have := hr.pos
  rw [e] at this
  exact absurd this (by decide +kernel)
 have hne : ze q ≠ 0 := Rat.ne_of_gt hr.pos
 have hb1 : bq 180 (ze p / ze q) := by
  rw [Rat.div_def]
  have h2 := hr.fq.ok.bq
  refine qc (j := 90) (k := 90) hr.fp.ok.bq ⟨?_, ?_⟩
  ·rw [Rat.num_inv, Int.natAbs_mul, Int.natAbs_natCast]
   have hs : (ze q).num.sign.natAbs ≤ 1 := by rw [Int.natAbs_sign]; split <;> omega
   exact Nat.lt_of_le_of_lt (Nat.mul_le_mul_right _ hs) (by rw [Nat.one_mul]; exact h2.den)
  ·rw [Rat.den_inv, if_neg fun e => hne (Rat.num_eq_zero.1 e)]
   exact h2.num
 have hX : 0 ≤ ze p / ze q := by
  rw [Rat.div_def]
  exact Rat.mul_nonneg hr.fp.pos (Rat.le_of_lt (Rat.inv_pos.2 hr.pos))
 have hn := hr.num
 have hd := hr.den
 have hv : HZ p q := ⟨hr.fp.ok.mono (by decide), hr.fq.ok.mono (by decide), hne⟩
 have eB : yE (ze p) (ze q) = Ib (ze p / ze q) := rfl
 have eV : wm (ze p) (ze q) = ik (ze p / ze q) := rfl
 rw [eB, eV, hz]
 refine zX.2 ⟨fun _ => ⟨hr.fp, hr.fq, zX.2 ⟨fun c => (by cases c), fun _ => ⟨hv, (ZH (by decide) (by decide)).2 (hb1.mono (by decide)), ?_⟩⟩⟩, fun c => by rw [c1] at c; cases c⟩
 simp only [zm, (zC _).2]
 generalize ze p / ze q = x at *
 have hx := Rat.num_nonneg.2 hX
 have b1 := wI x.num
 have e2 : x5 (x.den : Int) = Lib.nDigits x.den := by unfold x5; rw [Int.natAbs_natCast]
 have b2 := wI (x.den : Int)
 rw [e2, Int.natAbs_natCast] at b2
 have k1 : x.num.natAbs < 10 ^ 17 := Nat.lt_of_lt_of_le b1 (Nat.pow_le_pow_right (by omega) hn)
 have k2 : x.den < 10 ^ 17 := Nat.lt_of_lt_of_le b2 (Nat.pow_le_pow_right (by omega) hd)
 have k3 : (10 : Nat) ^ 17 = 100000000000000000 := by decide
 rw [k3] at k1 k2
 have l1 : (Lib.itoa x.num).length ≤ 17 := by rw [Xz, if_neg (by omega)]; omega
 have l2 : (Lib.itoa (x.den : Int)).length ≤ 17 := by rw [Go.Ar.Z6, Lib.decDigits_length]; exact hd
 obtain ⟨N, hN⟩ : ∃ N : Nat, x.num = N := ⟨x.num.toNat, by omega⟩
 have dp := x.den_pos
 refine ⟨(zC _).1, l1, hx, (zC _).1, l2, by omega, ?_⟩
 unfold Ib ik
 rw [Int.toNat_natCast]
 obtain ⟨s1, s2⟩ := xO (n := x.num.toNat) (by omega)
 obtain ⟨t1, t2⟩ := xO (n := x.den) (by omega)
 have r1 : yA x.num.toNat < 1000000000 := X2 (by omega)
 have r2 : yA x.den < 1000000000 := X2 (by omega)
 have oi : ∀ a : Nat, a < 1000000000 → Yo 140 (Lib.itoa (a : Int)) := fun a ha => by
  rw [← w5]
  refine (ZH (by decide) (by decide)).2 (bq.mono (j := 9) ⟨?_, ?_⟩ (by decide))
  ·rw [Rat.num_natCast, Int.natAbs_natCast]; exact ha
  ·rw [Rat.den_natCast]; decide
 have qi : ∀ a : Nat, ze (Lib.itoa (a : Int)) = (a : Rat) := fun a => by rw [← w5, zm]
 rw [qi, qi]
 refine zX.2 ⟨fun c => ?_, fun c => ?_⟩
 ·have e : (Nat.beq (yA x.num.toNat * yA x.num.toNat) x.num.toNat && Nat.beq (yA x.den * yA x.den) x.den) = false := by
   cases h1 : Nat.beq (yA x.num.toNat * yA x.num.toNat) x.num.toNat with
   | false => rfl
   | true => rw [h1] at c; simpa using c
  rw [e]
  exact ⟨rfl, rfl, rfl⟩
 ·rw [Bool.or_eq_false_iff, Bool.not_eq_false', Bool.not_eq_false'] at c
  rw [c.1, c.2]
  have hd0 : yA x.den ≠ 0 := fun e => by have := (Nat.beq_eq ▸ c.2 : yA x.den * yA x.den = x.den); rw [e] at this; omega
  refine ⟨⟨oi _ r1, oi _ r2, ?_⟩, rfl, ?_, rfl⟩
  ·rw [qi]
   exact fun e => hd0 (Rat.natCast_eq_zero_iff.1 e)
  ·show zT _ = zT _
   rw [Rat.mkRat_eq_div]; rfl
theorem iY {G : List (Nat × Obj)} (hG : zo G) (p : List UInt8) (q : List UInt8) (hr : Kg p q) : zt Tryz.prog G 74 [.str p, .str q] (.tup 3 (zw [.str (bif yE (ze p) (ze q) then zT (wm (ze p) (ze q)) else []), .b (yE (ze p) (ze q)), .i 0])) :=
 zW (T := gu G) (an := .auto) mixed (om hG) (Eq.mp (by kernel_rfl) (LF G p q hr))
theorem Qk {G : List (Nat × Obj)} (hG : zo G) : zp Tryz.prog G 74 Ug := by
 intro xs ps r h hp
 unfold Ug at h
 split at h
 ·skip
  rename_i p q
  cases h
  obtain ⟨q0, -⟩ := ZI hp
  exact weaken (ys := [.str p, .str q]) ⟨zS _, zS _, trivial⟩ (iY hG p q q0)
 ·cases h
end Go.Te

namespace Go.Te
open Go Go.Sx Go.Proofs Go.Ar
set_option maxRecDepth 100000
set_option maxHeartbeats 4000000
def Mi (s : zj) : Bool := zT (ze s) == s
theorem ut (q : Rat) : Mi (zT q) = true := by unfold Mi; rw [zm]; exact beq_self_eq_true _
theorem mA {x : AV} (h : (Zk x && Mi (AV.bytes x)) = true) : zd x (.str (zT (ze (AV.bytes x)))) := by
 rw [Bool.and_eq_true] at h
 unfold Mi at h
 rw [eq_of_beq h.2]
 exact ZT (x7 h.1)
instance : zV Tm := ⟨2, ⟨0, 0⟩, fun t => zw [.str (zT t.c), .str (zT t.q)], fun cs => ⟨ze (AV.bytes (cs 0)), ze (AV.bytes (cs 1))⟩, fun cs => (Zk (cs 0) && Mi (AV.bytes (cs 0))) && (Zk (cs 1) && Mi (AV.bytes (cs 1))), fun cs h j hj => by
 rw [Bool.and_eq_true] at h
 match j, hj with
 | 0, _ => exact mA h.1
 | 1, _ => exact mA h.2⟩
instance : y7 Tm := ⟨fun c => by
 show (⟨ze (zT c.c), ze (zT c.q)⟩ : Tm) = c
 rw [zm, zm], fun c => by
 show ((true && Mi (zT c.c)) && (true && Mi (zT c.q))) = true
 rw [ut, ut]; rfl⟩
theorem YY (c q : Rat) : Zn (AV.agg 2 (zw [AV.str (zT c), AV.str (zT q)])) = (⟨c, q⟩ : Tm) := Wt (⟨c, q⟩ : Tm)
theorem yU (c q : Rat) : yV Tm (AV.agg 2 (zw [AV.str (zT c), AV.str (zT q)])) = true := XK (⟨c, q⟩ : Tm)
def wC (x : Rat) : Int := if (Lib.nDigits x.den : Int) > (x5 x.num : Int) then (Lib.nDigits x.den : Int) else (x5 x.num : Int)
theorem vr {x : Rat} {k : Nat} (hk : 0 < k) (h : bq k x) : wC x ≤ k := by
 have a1 : x5 x.num ≤ k := xM hk h.num
 have a2 : Lib.nDigits x.den ≤ k := (Zx hk).2 h.den
 unfold wC
 split <;> omega
noncomputable def gp (G : List (Nat × Obj)) : Tb := (((WS G).plus 95 (YL fun s => .str (zR s))).body Tryz.prog [(86, .auto)]).plus 85 SL
theorem o8 {G : List (Nat × Obj)} (hG : zo G) : zz Tryz.prog (gp G) := zz.plus (zz.body mixed (zz.plus zQ (zp.mono vU)) _) (QL hG)
def uO : List AV → Option (List zN × AV)
 | [.str a] => some ([.p (Yo 300 a)], .i (wC (ze a)))
 | _ => none
theorem Oh (G : List (Nat × Obj)) (a : List UInt8) (hr : Yo 300 a) :
 let q1 := (↑(lN (zR (Lib.itoa (cI (Rat.den (ze a)))))) : Int); let q2 := (lZ (zR (Lib.itoa (Rat.num (ze a))))); Zw [AV.str a] → Yo 300 a ∧ kI ∧ (if q1 > q2 then q1 else q2) = wC (ze a) := by
 delta cI kI lZ lN
 dsimp only
 intro hb
 simp only [sS, dS]
 refine ⟨hr, ?_⟩
 rw [T6, T6]
 have e2 : x5 ((ze a).den : Int) = Lib.nDigits (ze a).den := by unfold x5; rw [Int.natAbs_natCast]
 rw [e2]; rfl
theorem Lm {G : List (Nat × Obj)} (hG : zo G) (a : List UInt8) (hr : Yo 300 a) : zt Tryz.prog G 47 [.str a] (.i (wC (ze a))) :=
 zW (T := gp G) (an := .auto) mixed (o8 hG) (Eq.mp (by kernel_rfl) (Oh G a hr))
theorem pF {G : List (Nat × Obj)} (hG : zo G) : zp Tryz.prog G 47 uO := by
 intro xs ps r h hp
 unfold uO at h
 split at h
 ·skip
  rename_i a
  cases h
  obtain ⟨q0, -⟩ := ZI hp
  exact weaken (ys := [.str a]) ⟨zS _, trivial⟩ (Lm hG a q0)
 ·cases h
structure I9 (x y : Tm) : Prop where
 ra : Kg (zT y.q) (zT x.q)
 rel : yE y.q x.q = true
 cx : bq 100 x.c
 cy : bq 100 y.c
theorem kJ {p q : Rat} (h1 : x5 (p / q).num ≤ 17) (h2 : Lib.nDigits (p / q).den ≤ 17) (h0 : 0 ≤ p / q) : bq 9 (wm p q) := by
 unfold wm ik
 generalize p / q = x at *
 have hx := Rat.num_nonneg.2 h0
 have b1 := wI x.num
 have e2 : x5 (x.den : Int) = Lib.nDigits x.den := by unfold x5; rw [Int.natAbs_natCast]
 have b2 := wI (x.den : Int)
 rw [e2, Int.natAbs_natCast] at b2
 have k1 : x.num.natAbs < 10 ^ 17 := Nat.lt_of_lt_of_le b1 (Nat.pow_le_pow_right (by omega) h1)
 have k2 : x.den < 10 ^ 17 := Nat.lt_of_lt_of_le b2 (Nat.pow_le_pow_right (by omega) h2)
 have k3 : (10 : Nat) ^ 17 = 100000000000000000 := by decide
 have k4 : (10 : Nat) ^ 9 = 1000000000 := by decide
 rw [k3] at k1 k2
 obtain ⟨s1, s2⟩ := xO (n := x.num.toNat) (by omega)
 obtain ⟨t1, t2⟩ := xO (n := x.den) (by omega)
 have r1 : yA x.num.toNat < 1000000000 := X2 (by omega)
 have r2 : yA x.den < 1000000000 := X2 (by omega)
 have hd0 : yA x.den ≠ 0 := fun e => by rw [e] at t2; have := x.den_pos; omega
 exact Tj (by omega) (by rw [Int.natAbs_natCast, k4]; exact r1) (by rw [k4]; exact r2)
noncomputable def gn (G : List (Nat × Obj)) : Tb := (((WS G).plus 74 Ug).plus 40 Uz).plus 30 NJ
theorem P3 {G : List (Nat × Obj)} (hG : zo G) : zz Tryz.prog (gn G) := zz.plus (zz.plus (zz.plus zQ (Qk hG)) (sf hG)) (JE hG)
def sR : List AV → Option (List zN × AV)
 | [x_x, x_y] => some ([.b (yV Tm x_x), .b (yV Tm x_y), .p (I9 (Zn (α := Tm) x_x) (Zn (α := Tm) x_y))], .tup 2 (zw [YG (⟨(Zn (α := Tm) x_x).c + (Zn (α := Tm) x_y).c * wm (Zn (α := Tm) x_y).q (Zn (α := Tm) x_x).q, (Zn (α := Tm) x_x).q⟩ : Tm), .i 0]))
 | _ => none
theorem NA (G : List (Nat × Obj)) (x : Tm) (y : Tm) (hr : I9 x y) :
 let q1 := (bif yE (ze (zT (Tm.q y))) (ze (zT (Tm.q x))) then zT (wm (ze (zT (Tm.q y))) (ze (zT (Tm.q x)))) else []); let q2 := (zT (ze (zT (Tm.c y)) * ze q1)); let q3 := (Tm.mk (Tm.c x + Tm.c y * wm (Tm.q y) (Tm.q x)) (Tm.q x)); Zw [AV.agg 2 (zV.enc x), AV.agg 2 (zV.enc y)] → Kg (zT (Tm.q y)) (zT (Tm.q x)) ∧ OL 140 (zT (Tm.c y)) q1 ∧ OL 140 (zT (Tm.c x)) q2 ∧ j2 ∧ (True ∧ 2 = 2 ∧ zT (ze (zT (Tm.c x)) + ze q2) = zT (Tm.c q3) ∧ zT (Tm.q x) = zT (Tm.q q3)) ∧ kI ∧ iZ = iZ := by
 delta kI j2 iZ
 dsimp only
 intro hb
 simp only [sS, dS, zm]
 have hp := hr.ra.fp
 have hx := hr.ra.fq.pos
 have h1 := hr.ra.num
 have h2 := hr.ra.den
 have h3 := hr.ra.pos
 have h4 := hp.pos
 rw [zm] at h3 h4
 rw [zm, zm] at h1 h2
 have hX : 0 ≤ y.q / x.q := by
  rw [Rat.div_def]
  exact Rat.mul_nonneg h4 (Rat.le_of_lt (Rat.inv_pos.2 h3))
 have hv := kJ h1 h2 hX
 have hm := qc hr.cy hv
 rw [hr.rel]
 simp only [cond_true, zm]
 exact ⟨hr.ra, ⟨(ZH (by decide) (by decide)).2 (hr.cy.mono (by decide)), (ZH (by decide) (by decide)).2 (hv.mono (by decide))⟩, ⟨(ZH (by decide) (by decide)).2 (hr.cx.mono (by decide)), (ZH (by decide) (by decide)).2 (hm.mono (by decide))⟩, rfl, trivial⟩
theorem LQ {G : List (Nat × Obj)} (hG : zo G) (x : Tm) (y : Tm) (hr : I9 x y) : zt Tryz.prog G 84 [YG x, YG y] (.tup 2 (zw [YG (⟨x.c + y.c * wm y.q x.q, x.q⟩ : Tm), .i 0])) :=
 zW (T := gn G) (an := .auto) mixed (P3 hG) (Eq.mp (by kernel_rfl) (NA G x y hr))
theorem Lv {G : List (Nat × Obj)} (hG : zo G) : zp Tryz.prog G 84 sR := by
 intro xs ps r h hp
 unfold sR at h
 split at h
 ·skip
  rename_i x_x x_y
  cases h
  obtain ⟨q0, q1, q2, -⟩ := ZI hp
  exact weaken (ys := [YG (Zn (α := Tm) x_x), YG (Zn (α := Tm) x_y)]) ⟨ZU q0, ZU q1, trivial⟩ (LQ hG (Zn (α := Tm) x_x) (Zn (α := Tm) x_y) q2)
 ·cases h
end Go.Te

namespace Go.Proofs
open Go.Shelf
def Tryz.pdqCut_ren : Go.Shelf.Ren := ⟨fun | 14 => 87 | 20 => 129 | 21 => 130 | 22 => 131 | 23 => 132 | 24 => 133 | 25 => 134 | 26 => 135 | 27 => 136 | 46 => 169 | 47 => 170 | 48 => 171 | 49 => 172 | 50 => 173 | 15 => 88 | 57 => 193 | 28 => 137 | 29 => 138 | n => n, fun | 24 => 49 | 22 => 25 | 3 => 3 | 25 => 82 | 4 => 4 | 0 => 0 | 46 => 178 | 45 => 177 | 50 => 166 | 66 => 221 | 39 => 127 | 55 => 160 | 70 => 225 | 76 => 241 | 77 => 234 | 53 => 184 | 5 => 5 | 9 => 9 | n => n, fun | n => n⟩
theorem Tryz.pdqCut : Go.Proofs.SlLaysF0.n14 Tryz.prog Tryz.pdqCut_ren := {
 mixed := by kernel_rfl
 f14 := ⟨Tryz.f87.name, by decide, Tryz.func87.trans (congrArg some (by kernel_rfl))⟩
 f15 := Tryz.func88.trans (congrArg some (by kernel_rfl))
 f20 := ⟨Tryz.f129.name, by decide, Tryz.func129.trans (congrArg some (by kernel_rfl))⟩
 f21 := ⟨Tryz.f130.name, by decide, Tryz.func130.trans (congrArg some (by kernel_rfl))⟩
 f22 := ⟨Tryz.f131.name, by decide, Tryz.func131.trans (congrArg some (by kernel_rfl))⟩
 f23 := ⟨Tryz.f132.name, by decide, Tryz.func132.trans (congrArg some (by kernel_rfl))⟩
 f24 := ⟨Tryz.f133.name, by decide, Tryz.func133.trans (congrArg some (by kernel_rfl))⟩
 f25 := ⟨Tryz.f134.name, by decide, Tryz.func134.trans (congrArg some (by kernel_rfl))⟩
 f26 := ⟨Tryz.f135.name, by decide, Tryz.func135.trans (congrArg some (by kernel_rfl))⟩
 f27 := ⟨Tryz.f136.name, by decide, Tryz.func136.trans (congrArg some (by kernel_rfl))⟩
 f28 := Tryz.func137.trans (congrArg some (by kernel_rfl))
 f29 := Tryz.func138.trans (congrArg some (by kernel_rfl))
 f46 := ⟨Tryz.f169.name, by decide, Tryz.func169.trans (congrArg some (by kernel_rfl))⟩
 f47 := Tryz.func170.trans (congrArg some (by kernel_rfl))
 f48 := Tryz.func171.trans (congrArg some (by kernel_rfl))
 f49 := ⟨Tryz.f172.name, by decide, Tryz.func172.trans (congrArg some (by kernel_rfl))⟩
 f50 := ⟨Tryz.f173.name, by decide, Tryz.func173.trans (congrArg some (by kernel_rfl))⟩
 f57 := ⟨Tryz.f193.name, by decide, Tryz.func193.trans (congrArg some (by kernel_rfl))⟩
 t0 := Tryz.underlying0
 a0 := Tryz.isAgg0
 z0 := Tryz.sizeOf0
 v0 := Tryz.zeroValue0
 t3 := Tryz.underlying3
 a3 := Tryz.isAgg3
 z3 := Tryz.sizeOf3
 v3 := Tryz.zeroValue3
 t4 := Tryz.underlying4
 a4 := Tryz.isAgg4
 z4 := Tryz.sizeOf4
 v4 := Tryz.zeroValue4
 t5 := Tryz.underlying5
 a5 := Tryz.isAgg5
 z5 := Tryz.sizeOf5
 v5 := Tryz.zeroValue5
 t9 := Tryz.underlying9
 a9 := Tryz.isAgg9
 z9 := Tryz.sizeOf9
 v9 := Tryz.zeroValue9
 t22 := Tryz.underlying25
 a22 := Tryz.isAgg25
 z22 := Tryz.sizeOf25
 v22 := Tryz.zeroValue25
 t25 := Tryz.underlying82
 a25 := Tryz.isAgg82
 z25 := Tryz.sizeOf82
 v25 := Tryz.zeroValue82
 t39 := Tryz.underlying127
 a39 := Tryz.isAgg127
 z39 := Tryz.sizeOf127
 v39 := Tryz.zeroValue127
 t45 := Tryz.underlying177
 a45 := Tryz.isAgg177
 z45 := Tryz.sizeOf177
 v45 := Tryz.zeroValue177
 t46 := Tryz.underlying178
 a46 := Tryz.isAgg178
 z46 := Tryz.sizeOf178
 v46 := Tryz.zeroValue178
 t50 := Tryz.underlying166
 a50 := Tryz.isAgg166
 z50 := Tryz.sizeOf166
 v50 := Tryz.zeroValue166
 t53 := Tryz.underlying184
 a53 := Tryz.isAgg184
 z53 := Tryz.sizeOf184
 v53 := Tryz.zeroValue184
 t55 := Tryz.underlying160
 a55 := Tryz.isAgg160
 z55 := Tryz.sizeOf160
 v55 := Tryz.zeroValue160
 t66 := Tryz.underlying221
 a66 := Tryz.isAgg221
 z66 := Tryz.sizeOf221
 v66 := Tryz.zeroValue221
 t70 := Tryz.underlying225
 a70 := Tryz.isAgg225
 z70 := Tryz.sizeOf225
 v70 := Tryz.zeroValue225
 t76 := Tryz.underlying241
 a76 := Tryz.isAgg241
 z76 := Tryz.sizeOf241
 v76 := Tryz.zeroValue241
 t77 := Tryz.underlying234
 a77 := Tryz.isAgg234
 z77 := Tryz.sizeOf234
 v77 := Tryz.zeroValue234 }
end Go.Proofs
namespace Go.Te
open Go Go.Sx Go.Proofs Go.RowKit Go.Shelf Go.Sort
set_option maxHeartbeats 4000000
set_option maxRecDepth 100000
theorem po (n : Nat) (hn : n < 4611686018427387904) (w : World) : Calls Tryz.prog 88 #[.int .u64 (n : Int)] w fun e w' => e = .returned (.int .i64 (Lib.bitLen n : Nat)) ∧ w' = w := by
 have h := Tryz.bits_Len (n : Int) w (by omega) (by omega)
 rwa [Int.toNat_natCast] at h
theorem NX : Rx Tryz.prog 48 2 := by
 intro enc hk h1 cf hO g cb blk off cap d w eg hcmp hH hblk hsz
 have e14 : ∀ args w, (callFunc 87 args).run Tryz.prog w = .ok (.enter 87 args) w := enters_of Tryz.func87 (by kernel_rfl) rfl
 have e15 : ∀ args w, (callFunc 88 args).run Tryz.prog w = .ok (.enter 88 args) w := enters_of Tryz.func88 (by kernel_rfl) rfl
 have hlim : Lib.bitLen d.size < 4611686018427387904 := Nat.lt_of_le_of_lt (Lib.bitLen_le d.size 62 (by omega) (by omega)) (by omega)
 have hp : Calls Tryz.prog 87 _ _ _ := AnyQ.pdqsortCmpFunc_all Tryz.pdqCut 2 Tryz.isAgg49 Tryz.sizeOf49 enc cf g cb hO blk off cap d w eg hcmp ⟨hk, h1, hH, hblk⟩ (d.size + 1) 0 d.size (Lib.bitLen d.size) d w (by omega) rfl (SWK.start hH) (Nat.zero_le _) (Nat.le_refl _) hsz hlim (Or.inl rfl)
 have hl := po d.size hsz w
 have wr : IntKind.u64.wrap (d.size : Int) = d.size := by simp [IntKind.wrap, IntKind.bits, IntKind.signed]; omega
 have h := pdq_sorts (ltOf cf) hO d 0 d.size (Lib.bitLen d.size) true true (Nat.zero_le _) (Nat.le_refl _) (Or.inl rfl)
 have mixed : Tryz.prog.follows .mixedOrders = true := by kernel_rfl
 clear hH hcmp hk h1
 go_enter Tryz.func48, Tryz.ntmps48
 go_wp2_with (first | (go_at_fn 88; refine hl.mono ?_; rintro e w' ⟨rfl, rfl⟩) | (go_at_fn 87; refine hp.mono ?_; rintro e w' ⟨rfl, n, os, rfl⟩))
 go_end0
 exact ⟨rfl, _, n, os, h.1, h.2, rfl⟩
theorem MZ : rE Tryz.prog 48 := by
 intro p cap fv w
 have e14 : ∀ args w, (callFunc 87 args).run Tryz.prog w = .ok (.enter 87 args) w := enters_of Tryz.func87 (by kernel_rfl) rfl
 have e15 : ∀ args w, (callFunc 88 args).run Tryz.prog w = .ok (.enter 88 args) w := enters_of Tryz.func88 (by kernel_rfl) rfl
 have hp : ∀ Ql W, Calls Tryz.prog 87 #[.slice p 0 cap, .int .i64 0, .int .i64 0, .int .i64 Ql, fv] W fun e w' => e = .returned (.tuple #[]) ∧ w' = W := fun Ql W => AnyF.pdqsortCmpFunc_none Tryz.pdqCut p cap Ql fv W
 have hl : ∀ W, Calls Tryz.prog 88 #[.int .u64 0] W fun e w' => e = .returned (.int .i64 (Lib.bitLen 0 : Nat)) ∧ w' = W := fun W => po 0 (by omega) W
 have mixed : Tryz.prog.follows .mixedOrders = true := by kernel_rfl
 go_enter Tryz.func48, Tryz.ntmps48
 go_wp2_with (first | (go_at_fn 88; refine (hl _).mono ?_; rintro e w' ⟨rfl, rfl⟩) | (go_at_fn 87; refine (hp _ _).mono ?_; rintro e w' ⟨rfl, rfl⟩))
 go_end0
 exact ⟨rfl, rfl⟩
end Go.Te

namespace Go.Te
open Go Go.Sx Go.Proofs Go.Ar Go.RowKit Go.Shelf
set_option maxRecDepth 100000
set_option maxHeartbeats 4000000
abbrev RM : Nat := 99999999
theorem kw {a : zj} (h : zh a = 0) (hn : (zL a).natAbs ≤ 99999999) (hd : zP a ≤ 99999999) : z8 a = true := by
 obtain ⟨_, o2, _, _, o5, _, _⟩ := YH a
 have hf := (Zr.1 h).1
 have hp := yo hf
 have e : a = Yn (zL a) (zP a) := (X8 hf).symm
 obtain ⟨s1, s2, s3, s4, s5⟩ := Xp (zL a) hp
 rw [← e] at s4 s5
 have a1 : x5 (zL a) ≤ 8 := xM (by decide) (Nat.lt_of_le_of_lt hn (by decide))
 have a2 : Lib.nDigits (zP a) ≤ 8 := (Zx (by decide)).2 (Nat.lt_of_le_of_lt hd (by decide))
 unfold z8
 rw [h, Bool.and_eq_true, Bool.and_eq_true, Zz, Zz]
 have q1 : (zn (zR a)).length ≤ 8 := by rw [← o5, s4]; exact a1
 have q2 : (zB (zR a)).length ≤ 8 := by rw [← o2, s5]; split <;> omega
 exact ⟨⟨rfl, by omega⟩, by omega⟩
theorem J5 {a : zj} (h : z8 a = true) : bq 9 (ze a) := by
 obtain ⟨h1, h2, h3⟩ := yi h
 have k : (10 : Nat) ^ 9 = 1000000000 := by decide
 exact ⟨by rw [(Z0 h1).1, k]; omega, by rw [(Z0 h1).2, k]; omega⟩
def sJ : List AV → Option (List zN × AV)
 | [.str a] => some ([.p (z8 a = true)], .tup 2 (zw [.agg 2 (zw [.i (zL a), .i (zP a : Int)]), .b true]))
 | _ => none
theorem lE : zp Tryz.prog [] 55 sJ := by
 intro xs ps r h hp
 unfold sJ at h
 split at h
 ·rename_i a
  cases h
  have q : z8 a = true := hp _ List.mem_cons_self
  have := NK a (by have := (yi q).1; exact YS (k := 9) ⟨this, J5 q⟩ (by decide) (by decide))
  rw [q] at this
  exact this
 ·cases h
def Qw : List AV → Option (List zN × AV)
 | [.str a, .str b] => some ([.p (z8 a = true), .p (z8 b = true)], .tup 2 (zw [.i (xR (zL a * (zP b : Int)) (zL b * (zP a : Int))), .i 0]))
 | _ => none
theorem Ky (a : List UInt8) (b : List UInt8) (ha : z8 a = true) (hc : z8 b = true) :
 Zw [AV.str a, AV.str b] → z8 a = true ∧ z8 b = true ∧ bF (dK (zL a * (cI (zP b)))) (bF (dK (zL b * (cI (zP a)))) (j2 ∧ (True ∧ kI ∧ xR (zL a * (cI (zP b))) (zL b * (cI (zP a))) = xR (zL a * (cI (zP b))) (zL b * (cI (zP a)))) ∧ kI ∧ iZ = iZ)) := by
 delta bF dK cI kI j2 iZ
 intro hb
 simp only [sS, YY, yU, zm, dS]
 obtain ⟨a1, a2, a3⟩ := yi ha
 obtain ⟨b1, b2, b3⟩ := yi hc
 have m1 := Yu (a := zL a) (b := (zP b : Int)) ⟨by omega, by omega⟩ ⟨by omega, by omega⟩
 have m2 := Yu (a := zL b) (b := (zP a : Int)) ⟨by omega, by omega⟩ ⟨by omega, by omega⟩
 exact ⟨ha, hc, ⟨by omega, by omega⟩, ⟨by omega, by omega⟩, rfl⟩
theorem iz (a : List UInt8) (b : List UInt8) (ha : z8 a = true) (hc : z8 b = true) : zt Tryz.prog [] 29 [.str a, .str b] (.tup 2 (zw [.i (xR (zL a * (zP b : Int)) (zL b * (zP a : Int))), .i 0])) :=
 zW (T := (T0.plus 55 sJ).plus 56 tv) (an := .auto) mixed (zz.plus (zz.plus zQ lE) Qq) (Eq.mp (by kernel_rfl) (Ky a b ha hc))
theorem JC : zp Tryz.prog [] 29 Qw := by
 intro xs ps r h hp
 unfold Qw at h
 split at h
 ·skip
  rename_i a b
  cases h
  obtain ⟨q0, q1, -⟩ := ZI hp
  exact weaken (ys := [.str a, .str b]) ⟨zS _, zS _, trivial⟩ (iz a b q0 q1)
 ·cases h
theorem Pw {q : Rat} (h1 : q.num.natAbs ≤ 99999999) (h2 : q.den ≤ 99999999) : z8 (zT q) = true := by
 obtain ⟨e1, e2⟩ := wY q
 have k : (10 : Nat) ^ 9 = 1000000000 := by decide
 exact kw (pS (k := 9) (by decide) ⟨by rw [k]; omega, by rw [k]; omega⟩ (by decide)) (by rw [e1]; exact h1) (by rw [e2]; exact h2)
def nZ (r : Nat → AV) : Bool := zV.ok (α := Tm) r && (Nat.ble (zV.dec (α := Tm) r).q.num.natAbs RM && Nat.ble (zV.dec (α := Tm) r).q.den RM)
def TA (r s : Nat → AV) : Int := W4 (zV.dec (α := Tm) r).q (zV.dec (α := Tm) s).q
theorem Kv (x : Tm) (y : Tm) (h1 : z8 (zT x.q) = true) (h2 : z8 (zT y.q) = true) :
 Zw [AV.agg 2 (zV.enc x), AV.agg 2 (zV.enc y)] → z8 (zT (Tm.q x)) = true ∧ z8 (zT (Tm.q y)) = true ∧ kI ∧ xR (zL (zT (Tm.q x)) * (cI (zP (zT (Tm.q y))))) (zL (zT (Tm.q y)) * (cI (zP (zT (Tm.q x))))) = W4 (Tm.q x) (Tm.q y) := by
 delta cI kI
 intro hb
 simp only [sS, YY, yU, zm, dS]
 refine ⟨h1, h2, ?_⟩
 have := Ns (yi h1).1 (yi h2).1
 rw [zm, zm] at this
 exact this
theorem J3 (x : Tm) (y : Tm) (h1 : z8 (zT x.q) = true) (h2 : z8 (zT y.q) = true) : zt Tryz.prog [] 49 [YG x, YG y] (.i (W4 x.q y.q)) :=
 zW (T := T0.plus 29 Qw) (an := .auto) mixed (zz.plus zQ JC) (Eq.mp (by kernel_rfl) (Kv x y h1 h2))
theorem Nq : Kq Tryz.prog 2 49 nZ TA where
 pos := by decide
 ent := enters_of Tryz.func49 (by kernel_rfl) rfl
 call := fun r s hr hs => by
  unfold nZ at hr hs
  rw [Bool.and_eq_true, Bool.and_eq_true] at hr hs
  have ar : yV Tm (.agg 2 r) = true := hr.1
  have a2 : yV Tm (.agg 2 s) = true := hs.1
  exact weaken (ys := [_, _]) ⟨ZU ar, ZU a2, trivial⟩ (J3 _ _ (Pw (Nat.le_of_ble_eq_true hr.2.1) (Nat.le_of_ble_eq_true hr.2.2)) (Pw (Nat.le_of_ble_eq_true hs.2.1) (Nat.le_of_ble_eq_true hs.2.2)))
 swo := fun els f => by
  have key : ∀ a b : Rat, W4 a b < 0 ↔ a < b := fun a b => by
   unfold W4
   split
   ·rename_i h; exact ⟨fun _ => h, fun _ => by decide⟩
   ·rename_i h
    split
    ·exact ⟨fun h => absurd h (by decide), fun e => absurd e h⟩
    ·exact ⟨fun h => absurd h (by decide), fun e => absurd e h⟩
  refine ⟨fun x => ?_, fun x y z h1 h2 => ?_, fun x y z h1 h2 => ?_⟩ <;>
   simp only [ltOf, TA, decide_eq_true_eq, decide_eq_false_iff_not, key, Rat.not_lt] at *
  ·exact Rat.le_refl
  ·grind
  ·grind
def Km := SJ 2 49 nZ TA
theorem og (G : List (Nat × Obj)) : tH Tryz.prog G 48 Km :=
 OO (enters_of Tryz.func48 (by kernel_rfl) rfl) MZ NX Nq G
end Go.Te

namespace Go.Te
open Go Go.Sx Go.Proofs Go.Ar Go.RowKit
set_option maxRecDepth 100000
set_option maxHeartbeats 4000000
structure XL (l : List Tm) : Prop where
 len : l.length ≤ 256
 cs : ∀ t ∈ l, bq 60 t.c
 qs : ∀ t ∈ l, t.q ≠ 0 → MK (zT t.q)
 root : inT RM l
 cls : ∀ k, ∀ x ∈ Xi (Xs (l.take k)), bq 60 x.c
 out : (Zl l).length ≤ 16
def NY (t : TypeId) (l : List Tm) : OB := .arr t 2 l.length fun i j => zV.enc (l.getD i zV.dflt) j
def IY : OB → List Tm
 | .arr _ _ n els => (List.range n).map fun i => zV.dec (els i)
 | _ => []
def UR : AV → Nat
 | .np k _ => k
 | _ => 0
def I0 : AV → Nat
 | .fn _ _ first _ _ => UR (first 0)
 | _ => 0
noncomputable def IG (G : List (Nat × Obj)) : Tb := Tb.own1 ((((((((WS G).plus 43 sY).plus 44 (YL fun s => .b (zk s))).plus 83 uY).plus 47 uO).plus 40 Uz).plus 74 Ug).plus 84 sR |>.plus 29 Qy) 48 Km
theorem QW {G : List (Nat × Obj)} (hG : zo G) : zz Tryz.prog (IG G) := zz.own1 (zz.plus (zz.plus (zz.plus (zz.plus (zz.plus (zz.plus (zz.plus (zz.plus zQ (R7 hG)) (zp.mono SR)) (pc hG)) (pF hG)) (sf hG)) (Qk hG)) (Lv hG)) (NC hG)) (og G)
def cellAt (B : OB) (i : Nat) : AV :=
 match B with
 | .box _ _ cs => cs i
 | _ => .junk
def rS (x y : AV) : Tm := ⟨ze (AV.bytes x), ze (AV.bytes y)⟩
def Yp (x t : Tm) : Tm × Tm := if t.q < x.q then (t, x) else (x, t)
theorem yZ (a b : zj) : rS (.str a) (.str b) = ⟨ze a, ze b⟩ := rfl
theorem yI (t : TypeId) (l : List Tm) : IY (OB.arr t 2 l.length fun i j => zV.enc (l.getD i zV.dflt) j) = l := by
 have e : ((List.range l.length).map fun i => zV.dec (α := Tm) (fun j => zV.enc (l.getD i zV.dflt) j)) = l := by
  apply List.ext_getElem
  ·simp
  ·intro i h1 h2
   rw [List.getElem_map, List.getElem_range, List.getD_eq_getElem?_getD, List.getElem?_eq_getElem h2]
   exact y7.dec _
 exact e
def lD : yt := .two .auto (.two .auto (.two (.one (.two .auto (.two .auto (.two .auto (.two .auto (.two .auto
 (.join (Tm × Tm) (fun σ _ => [(0, σ.tm 0), (5, σ.tm 5), (6, σ.tm 6), (10, σ.tm 10)]) (fun σ z => [(UR (σ.tm 6), .box 79 2 (zV.enc z.1)), (UR (σ.tm 10), .box 79 2 (zV.enc z.2))]) 0
  (fun σ z => z = Yp (rS (cellAt (σ.bl (UR (σ.tm 6))) 0) (cellAt (σ.bl (UR (σ.tm 6))) 1)) (rS (cellAt (σ.bl (UR (σ.tm 10))) 0) (cellAt (σ.bl (UR (σ.tm 10))) 1))) .auto .auto))))))) .auto))
def kN  : yt :=
 .two .auto (.two (.two .auto (.one (.loop Nat (fun σ z => [(0, σ.tm 0), (3, σ.tm 3), (17, σ.tm 17), (18, σ.tm 18), (19, .i (z : Int))]) (fun σ z => []) 0 (fun σ z => z ≤ (IY (σ.bl (YO (σ.tm 17)))).length ∧ ∀ j, j < z → yE (Zn (α := Tm) (σ.tm 1)).q ((IY (σ.bl (YO (σ.tm 17)))).getD j zV.dflt).q = false) (fun σ z => (IY (σ.bl (YO (σ.tm 17)))).length - z) lD))) .auto)
def Zv (l : List Tm) (k : Nat) : List Tm := Xi (Xs (l.take k))
def Lw : yt := .two .auto (.two .auto (.two (.one (.two .auto (.two .auto (.two .auto
 (.join (Rat × Rat) (fun σ z => [(1, σ.tm 1), (6, σ.tm 6), (11, σ.tm 11), (12, σ.tm 12), (13, σ.tm 13), (7, .str (zT z.1)), (8, .str (zT z.2)), (9, .i 0)]) (fun _ _ => []) 0
  (fun σ z => z.1 = nK (rS (cellAt (σ.bl (UR (σ.tm 6))) 0) (cellAt (σ.bl (UR (σ.tm 6))) 1)).q ∧ z.2 = nL (rS (cellAt (σ.bl (UR (σ.tm 6))) 0) (cellAt (σ.bl (UR (σ.tm 6))) 1)).q) .auto .auto))))) .auto))
def kR (l : List Tm) : yt :=
 .two .auto (.two (.two .auto (.one (.loop Nat (fun σ z => [(1, σ.tm 1), (11, σ.tm 11), (12, σ.tm 12), (13, .i (z : Int))]) (fun σ z => [(I0 (σ.tm 1), .box 75 1 fun _ => .ns σ.nb 0 (Zv l z).length), (σ.nb, NY 79 (Zv l z))]) 1 (fun σ z => z ≤ l.length) (fun σ z => l.length - z) Lw))) .auto)
def yc (l : List Tm) (k : Nat) : List Tm := ((Zv l l.length).take k).filter fun t => decide (t.c ≠ 0)
def K2 (l : List Tm) : yt :=
 .two .auto (.two .auto (.two (.two .auto (.one (.loop Nat (fun σ z => [(0, σ.tm 0), (16, σ.tm 16), (17, σ.tm 17), (18, .i (z : Int))]) (fun σ z => []) 0 (fun σ z => z ≤ l.length) (fun σ z => l.length - z) .auto))) (.two .auto (.two .auto (.two .auto (.two (.two .auto (.one (.loop Nat (fun σ z => [(45, σ.tm 45), (46, σ.tm 46), (10, .ns σ.nb 0 (yc l z).length), (47, .i (z : Int))]) (fun σ z => [(σ.nb, NY 49 (yc l z))]) 1 (fun σ z => z ≤ (Zv l l.length).length) (fun σ z => (Zv l l.length).length - z) .auto))) .auto))))))
theorem xh (x : Tm) : Zn (AV.agg 2 fun i => zV.enc x i) = x := Wt x
theorem Yl (x : Tm) : yV Tm (AV.agg 2 fun i => zV.enc x i) = true := XK x
theorem uo (a b : Rat) : W4 a b < 0 ↔ a < b := by
 unfold W4
 split
 ·rename_i h; exact ⟨fun _ => h, fun _ => by decide⟩
 ·rename_i h
  split
  ·exact ⟨fun h => absurd h (by decide), fun e => absurd e h⟩
  ·exact ⟨fun h => absurd h (by decide), fun e => absurd e h⟩
theorem Rv (l : List Tm) (x : Tm) : Xs (l ++ [x]) = Xs l ++ if x.c = 0 ∨ x.q = 0 then [] else [SU x] := by
 unfold Xs
 rw [List.filter_append, List.map_append]
 congr 1
 by_cases h1 : x.c = 0
 ·rw [if_pos (.inl h1)]; simp [h1]
 ·by_cases h2 : x.q = 0
  ·rw [if_pos (.inr h2)]; simp [h2]
  ·rw [if_neg (by simp [h1, h2])]; simp [h1, h2]
theorem tV {l : List Tm} {z : Nat} (h : z < l.length) : l.take (z + 1) = l.take z ++ [l.getD z zV.dflt] := PF (d := zV.dflt) h
theorem oM {l : List Tm} {z : Nat} (h : z < l.length) (h0 : (l.getD z zV.dflt).c = 0 ∨ (l.getD z zV.dflt).q = 0) : Zv l (z + 1) = Zv l z := by
 unfold Zv
 rw [tV h, Rv, if_pos h0, List.append_nil]
theorem OP {l : List Tm} {z : Nat} (h : z < l.length) (h0 : ¬((l.getD z zV.dflt).c = 0 ∨ (l.getD z zV.dflt).q = 0)) : Zv l (z + 1) = WJ (Zv l z) (SU (l.getD z zV.dflt)) := by
 unfold Zv
 rw [tV h, Rv, if_neg h0, TG]
theorem pO (t : Tm) : SU t = ⟨t.c * nK t.q, nL t.q⟩ := rfl
theorem mX : nK 1 = 1 ∧ nL 1 = 1 := by decide +kernel
theorem ib {q : Rat} (h : MK (zT q)) : 0 < q ∧ mQ q < 10 ^ 17 ∧ bq 17 (nK q) := by
 have hp := h.pos
 have hl := h.len
 rw [zm] at hp hl
 have hn : 0 < q.num := by
  have := Rat.num_nonneg.2 (Rat.le_of_lt hp)
  have h2 : q.num ≠ 0 := fun e => (Rat.ne_of_gt hp) (Rat.num_eq_zero.1 e)
  omega
 have b1 := wI q.num
 have b2 := wI (q.den : Int)
 have e2 : x5 (q.den : Int) = Lib.nDigits q.den := by unfold x5; rw [Int.natAbs_natCast]
 rw [e2, Int.natAbs_natCast] at b2
 have b3 : q.num.natAbs * q.den < 10 ^ 17 := by
  refine Nat.lt_of_lt_of_le (Nat.mul_lt_mul'' b1 b2) ?_
  rw [← Nat.pow_add]
  exact Nat.pow_le_pow_right (by omega) hl
 have em : mQ q = q.num.natAbs * q.den := by unfold mQ; rw [show q.num.toNat = q.num.natAbs by omega]
 rw [← em] at b3
 have hd : q.den < 10 ^ 17 := Nat.lt_of_lt_of_le b2 (Nat.pow_le_pow_right (by omega) (by omega))
 exact ⟨hp, b3, Tj q.den_pos (by rw [Int.natAbs_natCast]; exact Nat.lt_of_le_of_lt (qx (qY hp)).2.2 b3) hd⟩
theorem wo {R : Nat} {x : Tm} (h : ZV R x) (hR : R < 100000000) : bq 8 x.q ∧ 0 < x.q ∧ x.q.den = 1 ∧ x.q.num.natAbs ≤ R := by
 obtain ⟨r, e, h0, h1⟩ := h
 have k : (10 : Nat) ^ 8 = 100000000 := by decide
 rw [e]
 refine ⟨⟨by rw [Rat.num_natCast, Int.natAbs_natCast, k]; omega, by rw [Rat.den_natCast, k]; omega⟩, ?_, Rat.den_natCast r, by rw [Rat.num_natCast, Int.natAbs_natCast]; exact h1⟩
 exact Rat.lt_of_le_of_ne Rat.natCast_nonneg fun e => by have := Rat.natCast_eq_zero_iff.1 e.symm; omega
theorem Qr {x y : Tm} (hx : ZV RM x) (hy : ZV RM y) : Kg (zT x.q) (zT y.q) := by
 obtain ⟨b1, p1, d1, n1⟩ := wo hx (by decide)
 obtain ⟨b2, p2, d2, n2⟩ := wo hy (by decide)
 have key : bq 8 (x.q / y.q) := by
  obtain ⟨r, e, h0, h1⟩ := hx
  obtain ⟨s, e2, g0, g1⟩ := hy
  have k : (10 : Nat) ^ 8 = 100000000 := by decide
  have : x.q / y.q = mkRat (r : Int) s := by rw [e, e2, Rat.mkRat_eq_div]; rfl
  rw [this]
  exact Tj g0 (by rw [Int.natAbs_natCast, k]; exact Nat.lt_of_le_of_lt h1 (by decide)) (by rw [k]; exact Nat.lt_of_le_of_lt g1 (by decide))
 refine ⟨⟨(ZH (by decide) (by decide)).2 (b1.mono (by decide)), ?_⟩, ⟨(ZH (by decide) (by decide)).2 (b2.mono (by decide)), ?_⟩, ?_, ?_, ?_⟩
 ·rw [zm]; exact Rat.le_of_lt p1
 ·rw [zm]; exact Rat.le_of_lt p2
 ·rw [zm]; exact p2
 ·rw [zm, zm]; exact Nat.le_trans (xM (k := 8) (by decide) key.num) (by decide)
 ·rw [zm, zm]; exact Nat.le_trans ((Zx (k := 8) (by decide)).2 key.den) (by decide)
theorem mi {x y : Tm} (hx : ZV RM x) (hy : ZV RM y) (h : yE x.q y.q = true) : yE y.q x.q = true := by
 cases hb : yE y.q x.q with
 | true => rfl
 | false =>
  have := (uS hx hy (by decide)).2 ((uS hy hx (by decide)).1 hb).symm
  rw [h] at this
  cases this
theorem kP (x t : Tm) : XI x t = ⟨(Yp x t).1.c + (Yp x t).2.c * wm (Yp x t).2.q (Yp x t).1.q, (Yp x t).1.q⟩ := by
 unfold XI Yp
 split <;> rfl
theorem Oy {l : List Tm} {z : Nat} (h : z < (Zv l l.length).length) : yc l (z + 1) = yc l z ++ if ((Zv l l.length).getD z zV.dflt).c = 0 then [] else [(Zv l l.length).getD z zV.dflt] := by
 unfold yc
 rw [tV h, List.filter_append]
 congr 1
 generalize (Zv l l.length).getD z zV.dflt = x
 by_cases h1 : x.c = 0
 ·rw [if_pos h1]; simp [h1]
 ·rw [if_neg h1]; simp [h1]
theorem Rs (l : List Tm) : Zv l l.length = Xi (Xs l) := by unfold Zv; rw [List.take_length]
theorem mL (l : List Tm) : yc l (Zv l l.length).length = xp l := by
 unfold yc xp
 rw [List.take_length, Rs]
theorem yF {l : List Tm} {i : Nat} (h : i < l.length) : l.getD i zV.dflt ∈ l := by
 rw [List.getD_eq_getElem?_getD, List.getElem?_eq_getElem h]
 exact List.getElem_mem h
theorem Pr (l : List Tm) (x : Tm) (i j : Nat) (hi : i < l.length + 1) : zd (if i < l.length then zV.enc (l.getD i zV.dflt) j else zw [AV.str (zT x.c), AV.str (zT x.q)] j) (zV.enc ((l ++ [x]).getD i zV.dflt) j) := by
 by_cases h : i < l.length
 ·rw [if_pos h, show (l ++ [x]).getD i zV.dflt = l.getD i zV.dflt by simp [List.getD_eq_getElem?_getD, List.getElem?_append_left h]]
  exact zS _
 ·obtain rfl : i = l.length := by omega
  rw [if_neg h, show (l ++ [x]).getD l.length zV.dflt = x by simp [List.getD_eq_getElem?_getD]]
  exact zS _
theorem HN (l : List Tm) (k : Nat) (x : Tm) (hk : k < l.length) (i j : Nat) (hj : j < 2) : zd (if i = k ∧ j < 2 then (if j < 2 then zV.enc x j else Z1 (Value.agg #[Value.string ⟨#[]⟩, Value.string ⟨#[]⟩]) j) else zV.enc (l.getD i zV.dflt) j) (zV.enc ((l.set k x).getD i zV.dflt) j) := by
 by_cases e : i = k
 ·subst e
  rw [if_pos ⟨rfl, hj⟩, if_pos hj, show (l.set i x).getD i zV.dflt = x by simp [List.getD_eq_getElem?_getD, hk]]
  exact zS _
 ·rw [if_neg fun h => e h.1, show (l.set k x).getD i zV.dflt = l.getD i zV.dflt by simp [List.getD_eq_getElem?_getD, List.getElem?_set_ne (Ne.symm e)]]
  exact zS _
noncomputable def HD (G : List (Nat × Obj)) (l : List Tm) : Tb := ((IG G).body Tryz.prog [(46, kN)]).body Tryz.prog [(45, kR l)]
theorem OW {G : List (Nat × Obj)} (hG : zo G) (l : List Tm) : zz Tryz.prog (HD G l) := zz.body mixed (zz.body mixed (QW hG) _) _
theorem nl {l : List Tm} (h : XL l) (z : Nat) : (Zv l z).length ≤ l.length ∧ ∀ x ∈ Zv l z, ZV RM x ∧ bq 60 x.c := by
 obtain ⟨_, g2, _, g4, _⟩ := vO (R := RM) (by decide) (l := l.take z) fun t ht => h.root t (List.mem_of_mem_take ht)
 exact ⟨Nat.le_trans g4 (by rw [List.length_take]; omega), fun x hx => ⟨g2 x hx, h.cls z x hx⟩⟩
theorem KX {l : List Tm} (h : XL l) {p : List Nat} (hp : p.Perm (List.range (xp l).length)) (hs : p.Pairwise fun i j => ¬ TA (fun k => zV.enc ((xp l).getD j zV.dflt) k) (fun k => zV.enc ((xp l).getD i zV.dflt) k) < 0) :
  Zl l = p.map fun i => (xp l).getD i zV.dflt := by
 obtain ⟨g1, g2, _, _, _⟩ := vO (R := RM) (by decide) h.root
 have e : ((List.range (xp l).length).map fun i => (xp l).getD i zV.dflt) = xp l := by
  apply List.ext_getElem
  ·simp
  ·intro i h1 h2
   rw [List.getElem_map, List.getElem_range, List.getD_eq_getElem?_getD, List.getElem?_eq_getElem h2]
   rfl
 have hpp := hp.map fun i => (xp l).getD i zV.dflt
 rw [e] at hpp
 refine (QX (R := RM) (l := xp l) (fun x hx => g2 x (List.mem_filter.1 hx).1) (g1.filter _) hpp ?_).symm
 rw [List.pairwise_map]
 refine hs.imp fun {i j} hij => ?_
 have e1 : ∀ x : Tm, zV.dec (α := Tm) (fun k => zV.enc x k) = x := fun x => y7.dec x
 unfold TA at hij
 rw [e1, e1, uo] at hij
 exact Rat.not_lt.1 hij
def TY : List AV → Option (List zN × AV)
 | [x_l] => some ([.b (zf Tm x_l), .p (XL (Zs (α := Tm) x_l))], .tup 2 (zw [Ze (Zl (Zs (α := Tm) x_l)), .i 0]))
 | _ => none
theorem JH (G : List (Nat × Obj)) (l : List Tm) (h : XL l) :
 let q2 := (True ∧ Value.slice (X3 Addr) 0 0 = Value.slice (X3 Addr) 0 0 ∧ lN (Zl l) = 0); let q1 := (j2 ∧ q2 ∧ kI ∧ (4 : Int) = iZ); let q3 := (AV.xl false 2 (lN l) fun i j => zV.enc (gD l i zV.dflt) j); let q4 := (kI ∧ (lZ l) = (lZ l)); let q7 := (AV.fn (Fn.func 46) 1 (fun i => Option.getD [AV.np (nat_lit 0) 0][i]? AV.junk) 0 fun (i : Nat) => AV.junk); let q12 := (ByteArray.data (ByteArray.mk #[(48 : UInt8)])); let q15 := (ByteArray.data (ByteArray.mk #[(49 :
 UInt8)])); Zw [AV.xl false 2 (lN l) fun i j => zV.enc (gD l i zV.dflt) j] → zZ (zg (256 : Int) (lZ l)) q1 ((∃ (z : Nat), (z ≤ lN l ∧ zd q3 q3 ∧ zd q3 q3 ∧ q4 ∧ kI ∧ iZ = (cI z)) ∧ True) ∧ ∀ (z : Nat), let q5 := (gD l (Int.toNat (cI z)) zV.dflt); let q6 := (zT (Tm.q q5)); z ≤ lN l → zZ (zg (cI z) (lZ l)) (bF (DB.db (iZ ≤ (cI z) ∧ (cI z) < (lZ l))) (Yo 300 (zT (Tm.c q5)) ∧ Yo 300 q6 ∧ zZ (zk q6) (2 = lN [AV.junk,
 AV.junk] ∧ q2 ∧ kI ∧ (2 : Int) = iZ) (bF (dK ((cI z) + iO)) (∃ (z' : Nat), ((z' ≤ lN l ∧ lN l - z' < lN l - z) ∧ zd q3 q3 ∧ zd q3 q3 ∧ q4 ∧ kI ∧ (cI z) + iO = (cI z')) ∧ True)))) ((∃ (z : Nat), (z ≤ lN l ∧ zd q7 q7 ∧ zd q3 q3 ∧ q4 ∧ kI ∧ iZ = (cI z)) ∧ ((75 : TypeId) = 75 ∧ 1 = 1 ∧ some (X3 Nat) = some (X3 Nat) ∧ 0 = 0 ∧ lN (Zv l z) = 0) ∧ lN (Zv l z) = 0) ∧ ∀ (z : Nat), let q11 := (gD l (Int.toNat (↑z :
 Int)) zV.dflt); let q10 := (Tm.c q11); let q9 := (zT q10 == Array.toList q12); let q8 := (!zr false q9 || zr false q9); let q13 := (Tm.q q11); let q14 := (dK ((cI z) + iO)); let q16 := (zT q13); let q18 := (zT q10); let q17 := (Tm.q (rS (AV.str q18) (AV.str q16))); let q19 := (kI ∧ (cI z) = (cI z)); let q20 := (ze q16); let q21 := ((75 = 75 ∧ 1 = 1 ∧ nat_lit 1 = 1 ∧ 0 = 0 ∧ lN (Zv l z) = lN (Zv l z)) ∧ 79 = 79 ∧ 2 = 2 ∧ lN (Zv l z) = lN (Zv l z) ∧ ∀ (i j : Nat), let q22 := (zV.enc
 (gD (Zv l z) i zV.dflt) j); i < lN (Zv l z) → j < 2 → zd q22 q22); let q23 := (IY (OB.arr (79 : TypeId) 2 (lN (Zv l z)) fun i j => zV.enc (gD (Zv l z) i zV.dflt) j)); let q27 := (nat_lit 1 = 1 ∧ 0 = 0 ∧ lN (Zv l z) = lN (Zv l z)); let q28 := (kI ∧ (lZ (Zv l z)) = (lZ (Zv l z))); let q29 := (q21 ∧ 49 = 49 ∧ 2 = 2 ∧ zT q10 = zT q10 ∧ zT q13 = zT q13); let q45 := (DB.db ((lN (Zv l z) + 1) * 32 ≤ 140737488355328)); z ≤ lN l → zZ (zg (cI z)
 (lZ l)) (bF (DB.db (iZ ≤ (cI z) ∧ (cI z) < (lZ l))) (bF q8 (bF q8 (bF (!!zT q10 == Array.toList q12 || zr false q9) (zZ (bif zT q10 == Array.toList q12 then true else zT q13 == Array.toList q12) (bF q14 (∃ (z' : Nat), ((z' ≤ lN l ∧ lN l - z' < lN l - z) ∧ zd q7 q7 ∧ zd q3 q3 ∧ q4 ∧ kI ∧ (cI z) + iO = (cI z')) ∧ (75 = 75 ∧ 1 = 1 ∧ nat_lit 1 = 1 ∧ 0 = 0 ∧ lN (Zv l z') = lN (Zv l z)) ∧ 79 = 79 ∧ 2 = 2 ∧ lN (Zv l z') =
 lN (Zv l z) ∧ ∀ (i j : Nat), i < lN (Zv l z) → j < 2 → zd (zV.enc (gD (Zv l z) i zV.dflt) j) (zV.enc (gD (Zv l z') i zV.dflt) j))) (zZ (!zT q13 == Array.toList q15) (MK q16 ∧ ∃ (z_1 : Rat × Rat), ((Prod.fst z_1 = nK q17 ∧ Prod.snd z_1 = nL q17) ∧ zd q7 q7 ∧ (nat_lit 2 = 2 ∧ 0 = 0) ∧ zd q3 q3 ∧ q4 ∧ q19 ∧ zT (nK q20) = zT (Prod.fst z_1) ∧ zT (nL q20) = zT (Prod.snd z_1) ∧ kI ∧ iZ = iZ) ∧ q21 ∧ 49 = 49 ∧ 2 = 2 ∧ zT q10 = zT q10 ∧ zT q13 = zT q13) (∃ (z_1 : Rat × Rat), ((Prod.fst z_1 = nK q17
 ∧ Prod.snd z_1 = nL q17) ∧ zd q7 q7 ∧ (nat_lit 2 = 2 ∧ 0 = 0) ∧ zd q3 q3 ∧ q4 ∧ q19 ∧ Array.toList q15 = zT (Prod.fst z_1) ∧ zT q13 = zT (Prod.snd z_1) ∧ kI ∧ iZ = iZ) ∧ q21 ∧ 49 = 49 ∧ 2 = 2 ∧ zT q10 = zT q10 ∧ zT q13 = zT q13) ∧ ∀ (z_1 : Rat × Rat), let q26 := (ze q18 * ze (zT (Prod.fst z_1))); let q25 := (zT q26); let q24 := (Tm.q (Zn (AV.agg 2 (zw [AV.str q25, AV.str (zT (Prod.snd z_1))])))); let q37 := (rS (AV.str q25) (AV.str (zT (Prod.snd z_1)))); let q39 := (q29 ∧ 49 = 49 ∧ 2 = 2 ∧ zT q26 = zT q26 ∧ zT (Prod.snd z_1) =
 zT (Prod.snd z_1)); let q46 := (bF q14 (∃ (z' : Nat), ((z' ≤ lN l ∧ lN l - z' < lN l - z) ∧ zd q7 q7 ∧ zd q3 q3 ∧ q4 ∧ kI ∧ (cI z) + iO = (cI z')) ∧ (75 = 75 ∧ 1 = 1 ∧ nat_lit 1 = 1 ∧ 0 = 0 ∧ lN (Zv l z') = lN (Zv l z) + 1) ∧ (79 : TypeId) = 79 ∧ 2 = 2 ∧ lN (Zv l z') = lN (Zv l z) + 1 ∧ ∀ (i j : Nat), i < lN (Zv l z) + 1 → j < 2 → zd (if i < lN (Zv l z) then zV.enc (gD (Zv l z) i zV.dflt) j else Sx.rowAt [zw [AV.str q25, AV.str (zT (Prod.snd
 z_1))]] (i - lN (Zv l z)) j) (zV.enc (gD (Zv l z') i zV.dflt) j))); Prod.fst z_1 = nK q17 ∧ Prod.snd z_1 = nL q17 → (zr false (iZ != iZ) = true → Yo 300 (zT (Prod.snd z_1))) ∧ zZ (bif iZ != iZ then true else zg (90 : Int) (wC (ze (zT (Prod.snd z_1))))) q1 (OL 140 q18 (zT (Prod.fst z_1)) ∧ (∃ (z_2 : Nat), ((z_2 ≤ lN q23 ∧ ∀ (j : Nat), j < z_2 → yE q24 (Tm.q (gD q23 j zV.dflt)) = false) ∧ (nat_lit 0 = 0 ∧ 0 = 0) ∧ (nat_lit 3 = 3 ∧ 0 = 0) ∧ q27 ∧ q28 ∧ kI ∧ iZ = (cI z_2)) ∧ q29 ∧
 49 = 49 ∧ 2 = 2 ∧ zT q26 = zT q26 ∧ zT (Prod.snd z_1) = zT (Prod.snd z_1)) ∧ ∀ (z_2 : Nat), let q30 := (DB.db (iZ ≤ (cI z_2) ∧ (cI z_2) < (lZ (Zv l z)))); let q33 := (gD (Zv l z) (0 + Int.toNat (cI z_2)) zV.dflt); let q32 := (Tm.q q33); let q31 := (zT q32); let q34 := (ze q31); let q36 := (Tm.c q33); let q35 := (rS (AV.str (zT q36)) (AV.str q31)); let q38 := (kI ∧ (cI z_2) = (cI z_2)); (z_2 ≤ lN q23 ∧ ∀ (j : Nat), j < z_2 → yE q24 (Tm.q (gD q23 j zV.dflt)) = false) → zZ (zg (↑z_2 :
 Int) (lZ (Zv l z))) (bF q30 (Kg (zT (Prod.snd z_1)) q31 ∧ zZ (!yE (ze (zT (Prod.snd z_1))) q34) (bF (dK ((cI z_2) + iO)) (∃ (z' : Nat), (((z' ≤ lN q23 ∧ ∀ (j : Nat), j < z' → yE q24 (Tm.q (gD q23 j zV.dflt)) = false) ∧ lN q23 - z' < lN q23 - z_2) ∧ (nat_lit 0 = 0 ∧ 0 = 0) ∧ (nat_lit 3 = 3 ∧ 0 = 0) ∧ q27 ∧ q28 ∧ kI ∧ (cI z_2) + iO = (cI z')) ∧ q29 ∧ 49 = 49 ∧ 2 = 2 ∧ zT q26 = zT q26 ∧ zT (Prod.snd z_1) = zT (Prod.snd z_1))) ((OL 140 (zT (Prod.snd
 z_1)) q31 ∧ zZ (zg (W4 (ze (zT (Prod.snd z_1))) q34) iZ) (∃ (z_3 : Tm × Tm), (z_3 = Yp q35 q37 ∧ (nat_lit 0 = 0 ∧ 0 = 0) ∧ q38 ∧ (nat_lit 4 = 4 ∧ 0 = 0) ∧ nat_lit 5 = 5 ∧ 0 = 0) ∧ (q39 ∧ (79 : TypeId) = 79 ∧ 2 = 2 ∧ zT q26 = zT (Tm.c (Prod.fst z_3)) ∧ zT (Prod.snd z_1) = zT (Tm.q (Prod.fst z_3))) ∧ (79 : TypeId) = 79 ∧ 2 = 2 ∧ zT q36 = zT (Tm.c (Prod.snd z_3)) ∧ zT q32 = zT (Tm.q (Prod.snd z_3))) (∃ (z_3 : Tm × Tm), (z_3 = Yp q35 q37 ∧ (nat_lit 0 = 0 ∧ 0 = 0) ∧ q38 ∧ (nat_lit 4 = 4 ∧ 0 = 0) ∧ nat_lit 5 = 5 ∧ 0 = 0) ∧ (q39 ∧ (79 : TypeId) = 79 ∧ 2 = 2 ∧
 zT q36 = zT (Tm.c (Prod.fst z_3)) ∧ zT q32 = zT (Tm.q (Prod.fst z_3))) ∧ (79 : TypeId) = 79 ∧ 2 = 2 ∧ zT q26 = zT (Tm.c (Prod.snd z_3)) ∧ zT (Prod.snd z_1) = zT (Tm.q (Prod.snd z_3)))) ∧ ∀ (z_3 : Tm × Tm), let q40 := (AV.agg 2 fun (i : Nat) => zV.enc (Prod.fst z_3) (0 + i)); let q41 := (AV.agg 2 fun (i : Nat) => zV.enc (Prod.snd z_3) (0 + i)); z_3 = Yp q35 q37 → bF (yV Tm q40) (bF (yV Tm q41) (I9 (Zn q40) (Zn q41) ∧ bF q30 (bF q14 (∃ (z' : Nat), ((z' ≤ lN l ∧ lN l - z' < lN l - z) ∧ zd q7 q7 ∧ zd q3 q3 ∧ q4 ∧ IntKind.i64
 = .i64 ∧ (cI z) + iO = (cI z')) ∧ (75 = 75 ∧ 1 = 1 ∧ nat_lit 1 = 1 ∧ 0 = 0 ∧ lN (Zv l z') = lN (Zv l z)) ∧ 79 = 79 ∧ 2 = 2 ∧ lN (Zv l z') = lN (Zv l z) ∧ ∀ (i j : Nat), let q42 := (Zn (AV.agg 2 fun (i : Nat) => zV.enc (Prod.fst z_3) (0 + i))); let q43 := (Zn (AV.agg 2 fun (i : Nat) => zV.enc (Prod.snd z_3) (0 + i))); let q44 := (Tm.q q42); i < lN (Zv l z) → j < 2 → zd (if i = 0 + Int.toNat (cI z_2) ∧ 0 ≤ j ∧ j < 2 then if 0 ≤ 0 + (j - 0) ∧ 0 + (j - 0) < 2 then zV.enc (Tm.mk (Tm.c q42 + Tm.c q43 * wm (Tm.q q43)
 q44) q44) (0 + (j - 0) - 0) else Z1 (Value.agg #[Value.string (ByteArray.mk #[]), Value.string (ByteArray.mk #[])]) (0 + (j - 0)) else zV.enc (gD (Zv l z) i zV.dflt) j) (zV.enc (gD (Zv l z') i zV.dflt) j)))))))) (bF q45 q46 ∧ bF q45 q46)))))))) ((∃ (z_1 : Nat), (z_1 ≤ lN (Zv l (lN l)) ∧ q27 ∧ q28 ∧ (some (X3 Nat) = some (X3 Nat) ∧ 0 = 0 ∧ lN (yc l z_1) = 0) ∧ kI ∧ iZ = (cI z_1)) ∧ q21 ∧ lN (yc l z_1) = 0) ∧ ∀ (z_1 : Nat), let
 q48 := (gD (Zv l z) (0 + Int.toNat (cI z_1)) zV.dflt); let q47 := (Tm.c q48); let q49 := (dK ((cI z_1) + iO)); let q50 := (zT q47); let q53 := (wC (ze q50)); let q52 := (zg (60 : Int) q53); let q51 := (!zr false q52 || zr false q52); let q54 := (zT (Tm.q q48)); z_1 ≤ lN (Zv l (lN l)) → zZ (zg (cI z_1) (lZ (Zv l z))) (bF (DB.db (iZ ≤ (cI z_1) ∧ (cI z_1) < (lZ (Zv l z)))) (zZ (zT q47 == Array.toList q12) (bF q49 (∃ (z' : Nat), ((z' ≤ List.length
 (Zv l (lN l)) ∧ lN (Zv l (lN l)) - z' < lN (Zv l (lN l)) - z_1) ∧ q27 ∧ q28 ∧ (nat_lit 2 = 2 ∧ 0 = 0 ∧ lN (yc l z') = lN (yc l z_1)) ∧ kI ∧ (cI z_1) + iO = (cI z')) ∧ q21 ∧ 49 = 49 ∧ 2 = 2 ∧ lN (yc l z') = lN (yc l z_1) ∧ ∀ (i j : Nat), i < lN (yc l z_1) → j < 2 → zd (zV.enc (gD (yc l z_1) i zV.dflt) j) (zV.enc (gD (yc l z') i zV.dflt) j))) (Yo 300 q50 ∧ bF q51 (bF q51 ((zr false q52 = true → Yo 300 q54) ∧ zZ q51
 (bF (!!zg (60 : Int) q53 || zr false q52) (zZ (bif zg (60 : Int) q53 then true else zg (40 : Int) (wC (ze q54))) q1 (bF (DB.db ((lN (yc l z_1) + 1) * 32 ≤ 140737488355328)) (bF q49 (∃ (z' : Nat), ((z' ≤ lN (Zv l (lN l)) ∧ lN (Zv l (lN l)) - z' < lN (Zv l (lN l)) - z_1) ∧ q27 ∧ q28 ∧ (nat_lit 2 = 2 ∧ 0 = 0 ∧ lN (yc l z') = lN (yc l z_1) + 1) ∧ kI ∧ (cI z_1) + iO = (cI z')) ∧ q21 ∧ (49 : TypeId) = 49 ∧ 2 = 2 ∧ lN (yc l z') = List.length
 (yc l z_1) + 1 ∧ ∀ (i j : Nat), i < lN (yc l z_1) + 1 → j < 2 → zd (if i < lN (yc l z_1) then zV.enc (gD (yc l z_1) i zV.dflt) j else Sx.rowAt [zw [AV.str q50, AV.str q54]] (i - lN (yc l z_1)) j) (zV.enc (gD (yc l z') i zV.dflt) j)))))) False))))) (zZ (zg (16 : Int) (lZ (yc l z_1))) q1 (bF (Nat.beq (lN (yc l z_1)) (lN (yc l z_1)) && Nat.beq 2 2 && Nat.blt (nat_lit 2) (nat_lit 3) && Nat.beq 49 49) ((lN (yc l z_1) < 4611686018427387904 ∧ ∀
 (i : Nat), i < lN (yc l z_1) → (nZ fun (j : Nat) => zV.enc (gD (yc l z_1) i zV.dflt) j) = true) ∧ ∀ (p : List Nat), List.Perm p (List.range (lN (yc l z_1))) ∧ List.Pairwise (fun i j => ¬(TA (fun (j_1 : Nat) => zV.enc (gD (yc l z_1) j zV.dflt) j_1) fun (j : Nat) => zV.enc (gD (yc l z_1) i zV.dflt) j) < iZ) p → j2 ∧ (True ∧ zd (AV.xl false 2 (lN (yc l z_1)) fun i j => zV.enc (gD (yc l z_1) (gD p (0 + i) 0) zV.dflt) j) (AV.xl false 2 (lN (Zl l)) fun i j =>
 zV.enc (gD (Zl l) i zV.dflt) j)) ∧ kI ∧ iZ = iZ)))))) := by
 delta bF dK cI kI j2 lZ lN gD iZ iO
 dsimp only
 intro hb
 simp only [↓yz, ↓Zj, row_one]
 simp only [sS, YY, yU, zm, yZ, yI, xh, Yl, dS]
 have hlen := h.len
 have mem : ∀ z, z < l.length → l.getD z zV.dflt ∈ l := fun z hz => yF hz
 have okq : ∀ q : Rat, (q ≠ 0 → MK (zT q)) → Yo 300 (zT q) := fun q hq => by
  by_cases h0 : q = 0
  ·rw [h0]; exact (ZH (by decide) (by decide)).2 ⟨by decide +kernel, by decide +kernel⟩
  ·exact (hq h0).ok.mono (by decide)
 refine ⟨fun h => by omega, fun _ => ⟨⟨0, Nat.zero_le _, rfl⟩, fun z hz => ⟨fun hlt => ?_, fun hge => ?_⟩⟩⟩
 ·have hm := mem z (by omega)
  have o1 : Yo 300 (zT (l.getD z zV.dflt).c) := (ZH (by decide) (by decide)).2 ((h.cs _ hm).mono (by decide))
  have o2 := okq _ (h.qs _ hm)
  have hm0 := T5 o2.1 (by rw [zm]; exact (h.root _ hm).1)
  rw [hm0]
  exact ⟨⟨by omega, by omega⟩, o1, o2, zX.2 ⟨fun c => (by cases c), fun _ => ⟨by simp only [yP]; omega, z + 1, ⟨by omega, by omega⟩, by omega⟩⟩⟩
 refine ⟨⟨0, ⟨Nat.zero_le _, rfl⟩, rfl, rfl⟩, fun z hz => ⟨fun hlt => ?_, fun hge => ?_⟩⟩
 ·have hz' : z < l.length := by omega
  have hm := mem z hz'
  obtain ⟨k1, k2⟩ := nl h z
  have s0 := oM hz'
  have s1 := OP hz'
  have hc := h.cs _ hm
  have hq := h.qs _ hm
  have hv := pL h.root
  have hin : ¬((l.getD z zV.dflt).c = 0 ∨ (l.getD z zV.dflt).q = 0) → ZV RM (SU (l.getD z zV.dflt)) := fun hn => by
   refine hv.1 _ (List.mem_map.2 ⟨_, List.mem_filter.2 ⟨hm, ?_⟩, rfl⟩)
   simp only [not_or] at hn
   simp only [decide_eq_true_eq, Bool.and_eq_true]
   exact hn
  rw [XE, XE, vg]
  generalize l.getD z zV.dflt = t at *
  refine ⟨⟨by omega, by omega⟩, zX.2 ⟨fun c => ?_, fun c => ?_⟩⟩
  ·have c : t.c = 0 ∨ t.q = 0 := by simpa using c
   have e := s0 c
   exact ⟨by simp only [yP]; omega, z + 1, ⟨⟨by omega, by omega⟩, by omega⟩, by rw [e], by rw [e], fun i j _ _ => by rw [e]; exact zS _⟩
  have c : ¬(t.c = 0 ∨ t.q = 0) := by simpa using c
  have c2 := not_or.1 c
  have e := s1 c
  rw [pO] at e
  have hn := hin c
  rw [pO] at hn
  obtain ⟨r1, r2, r3⟩ := ib (hq c2.2)
  refine ⟨zX.2 ⟨fun _ => ⟨hq c2.2, (nK t.q, nL t.q), ⟨⟨rfl, rfl⟩, rfl, rfl⟩, fun _ _ _ _ => trivial⟩, fun c3 => ⟨(nK t.q, nL t.q), ⟨⟨rfl, rfl⟩, ?_⟩, fun _ _ _ _ => trivial⟩⟩, fun y ⟨y1, y2⟩ => ?_⟩
  ·have c3 : t.q = 1 := by simpa using c3
   rw [c3, mX.1, mX.2]
   decide +kernel
  obtain ⟨ya, yb⟩ := y
  simp only at y1 y2 ⊢
  rw [← y1, ← y2] at e hn
  rw [← y1] at r3
  obtain ⟨b1, b2, b3, b4⟩ := wo hn (by decide)
  have b1 : bq 8 yb := b1
  have l90 : zg 90 (wC yb) = false := Bool.eq_false_iff.2 fun e => by
   have := (zq _ _).1 e
   have := vr (by decide) b1
   omega
  rw [l90]
  have okb : Yo 300 (zT yb) := (ZH (by decide) (by decide)).2 (b1.mono (by decide))
  have okc : OL 140 (zT t.c) (zT ya) := ⟨(ZH (by decide) (by decide)).2 (hc.mono (by decide)), (ZH (by decide) (by decide)).2 (r3.mono (by decide))⟩
  have hcb : bq 77 (t.c * ya) := qc hc r3
  refine ⟨fun _ => okb, zX.2 ⟨fun c => (by cases c), fun _ => ⟨okc, ⟨0, ⟨⟨Nat.zero_le _, fun j hj => absurd hj (Nat.not_lt_zero _)⟩, rfl⟩, fun _ _ _ _ => trivial⟩, fun k ⟨q1, q2⟩ => ⟨fun kl => ?_, fun kg => ?_⟩⟩⟩⟩
  ·have hk : k < (Zv l z).length := by omega
   obtain ⟨x1, x2⟩ := k2 _ (yF hk)
   have sa := Po (t := ⟨t.c * ya, yb⟩) (d := zV.dflt) (cl := Zv l z) (i := k) hk q2
   have ra := Qr hn x1
   have rs := Qr x1 hn
   have sy := mi hn x1
   generalize hx0 : (Zv l z).getD k zV.dflt = x at *
   obtain ⟨xc, xq⟩ := x
   obtain ⟨f1, f2, f3, f4⟩ := wo x1 (by decide)
   have f1 : bq 8 xq := f1
   have okx : Yo 140 (zT xq) := (ZH (by decide) (by decide)).2 (f1.mono (by decide))
   have okb2 : Yo 140 (zT yb) := (ZH (by decide) (by decide)).2 (b1.mono (by decide))
   refine ⟨⟨by omega, by omega⟩, ra, zX.2 ⟨fun c => ?_, fun c => ⟨⟨⟨okb2, okx⟩, fun hlt2 => ?_, fun hge2 => ?_⟩, fun w hw => ?_⟩⟩⟩
   ·have c : yE yb xq = false := by simpa using c
    refine ⟨by simp only [yP]; omega, k + 1, ⟨⟨⟨by omega, fun j hj => ?_⟩, by omega⟩, by omega⟩, fun _ _ _ _ => trivial⟩
    by_cases ej : j = k
    ·subst ej
     rw [hx0]; exact c
    ·exact q2 j (by omega)
   ·have hl := (uo _ _).1 hlt2
    refine ⟨_, rfl, ?_⟩
    unfold Yp
    rw [if_pos (show (⟨t.c * ya, yb⟩ : Tm).q < (⟨xc, xq⟩ : Tm).q from hl)]
    exact ⟨⟨fun _ _ _ _ => trivial, rfl, rfl⟩, rfl, rfl⟩
   ·have hge2 : 0 ≤ W4 yb xq := hge2
    have hl : ¬ yb < xq := fun e => by have := (uo _ _).2 e; omega
    refine ⟨_, rfl, ?_⟩
    unfold Yp
    rw [if_neg (show ¬ (⟨t.c * ya, yb⟩ : Tm).q < (⟨xc, xq⟩ : Tm).q from hl)]
    exact ⟨⟨fun _ _ _ _ => trivial, rfl, rfl⟩, rfl, rfl⟩
   ·have c : yE yb xq = true := by simpa using c
    have sa := sa c
    have lh := kP ⟨xc, xq⟩ ⟨t.c * ya, yb⟩
    rw [← hw] at lh
    have hpl : I9 w.1 w.2 := by
     rw [hw]
     unfold Yp
     split
     ·exact ⟨rs, sy c, hcb.mono (by decide), x2.mono (by decide)⟩
     ·exact ⟨ra, c, x2.mono (by decide), hcb.mono (by decide)⟩
    rw [← lh]
    refine ⟨hpl, ⟨by omega, by omega⟩, by simp only [yP]; omega, z + 1, ⟨⟨by omega, by omega⟩, by omega⟩, ?_, ?_, fun i j hi hj => ?_⟩
    ·rw [e, sa, List.length_set]
    ·rw [e, sa, List.length_set]
    ·rw [e, sa]
     exact HN _ _ _ hk i j hj
  ·have sn := Tz (t := ⟨t.c * ya, yb⟩) (d := zV.dflt) (cl := Zv l z) fun j hj => q2 j (by omega)
   have fin : ((Zv l z).length + 1) * 32 ≤ 140737488355328 ∧ yP IntKind.i64 ((z : Int) + 1) ∧ ∃ z', ((z' ≤ l.length ∧ l.length - z' < l.length - z) ∧ (z : Int) + 1 = (z' : Int)) ∧ (Zv l z').length = (Zv l z).length + 1 ∧ (Zv l z').length = (Zv l z).length + 1 ∧
     ∀ (i j : Nat), i < (Zv l z).length + 1 → j < 2 → zd (if i < (Zv l z).length then zV.enc ((Zv l z).getD i zV.dflt) j else zw [AV.str (zT (t.c * ya)), AV.str (zT yb)] j) (zV.enc ((Zv l z').getD i zV.dflt) j) := by
    refine ⟨by omega, by simp only [yP]; omega, z + 1, ⟨⟨by omega, by omega⟩, by omega⟩, by rw [e, sn]; simp, by rw [e, sn]; simp, fun i j hi hj => ?_⟩
    rw [e, sn]
    exact Pr _ ⟨t.c * ya, yb⟩ i j hi
   exact ⟨fin, fin⟩
 ·have hz' : z = l.length := by omega
  subst hz'
  obtain ⟨k1, k2⟩ := nl h l.length
  refine ⟨⟨0, ⟨Nat.zero_le _, rfl, rfl⟩, fun _ _ _ _ => trivial, rfl⟩, fun y hy => ⟨fun yl => ?_, fun yg => ?_⟩⟩
  ·have hyl : y < (Zv l l.length).length := by omega
   have os := Oy hyl
   obtain ⟨x1, x2⟩ := k2 _ (yF hyl)
   have ho : (yc l y).length ≤ y := by
    unfold yc
    exact Nat.le_trans (List.length_filter_le _ _) (by rw [List.length_take]; omega)
   rw [XE]
   generalize (Zv l l.length).getD y zV.dflt = x at *
   obtain ⟨f1, f2, f3, f4⟩ := wo x1 (by decide)
   refine ⟨⟨by omega, by omega⟩, zX.2 ⟨fun c => ?_, fun c => ?_⟩⟩
   ·have c : x.c = 0 := by simpa using c
    rw [if_pos c, List.append_nil] at os
    exact ⟨by simp only [yP]; omega, y + 1, ⟨⟨by omega, by omega⟩, by rw [os], by omega⟩, fun _ _ _ _ => trivial, by rw [os], fun i j _ _ => by rw [os]; exact zS _⟩
   ·have c : x.c ≠ 0 := by simpa using c
    rw [if_neg c] at os
    have l60 : zg 60 (wC x.c) = false := Bool.eq_false_iff.2 fun e => by
     have := (zq _ _).1 e
     have := vr (by decide) x2
     omega
    have l40 : zg 40 (wC x.q) = false := Bool.eq_false_iff.2 fun e => by
     have := (zq _ _).1 e
     have := vr (by decide) f1
     omega
    rw [l60, l40]
    refine ⟨(ZH (by decide) (by decide)).2 (x2.mono (by decide)), fun _ => (ZH (by decide) (by decide)).2 (f1.mono (by decide)), zX.2 ⟨fun c => (by cases c), fun _ => ⟨by omega, by simp only [yP]; omega, y + 1, ⟨⟨by omega, by omega⟩, by rw [os]; simp, by omega⟩, fun _ _ _ _ => trivial, by rw [os]; simp, fun i j hi _ => ?_⟩⟩⟩
    rw [os]
    exact Pr _ x i j hi
  ·have hye : y = (Zv l l.length).length := by omega
   subst hye
   rw [mL]
   have hmk : (Zl l).length = (xp l).length := (Xy (xp l)).length_eq
   have h16 := h.out
   refine ⟨fun h => by omega, fun _ => zX.2 ⟨fun _ => ⟨⟨by omega, fun i hi => ?_⟩, fun p ⟨p1, p2⟩ => ?_⟩, fun c => ?_⟩⟩
   ·have hm : (xp l).getD i zV.dflt ∈ Zv l l.length := by rw [Rs]; exact (List.mem_filter.1 (yF hi)).1
    obtain ⟨x1, _⟩ := k2 _ hm
    obtain ⟨f1, f2, f3, f4⟩ := wo x1 (by decide)
    unfold nZ
    have e1 : zV.dec (α := Tm) (fun j => zV.enc ((xp l).getD i zV.dflt) j) = (xp l).getD i zV.dflt := y7.dec _
    have e2 : zV.ok (α := Tm) (fun j => zV.enc ((xp l).getD i zV.dflt) j) = true := y7.ok _
    rw [e1, e2, Bool.true_and, Bool.and_eq_true]
    exact ⟨Nat.ble_eq_true_of_le f4, Nat.ble_eq_true_of_le (by rw [f3]; decide)⟩
   ·have hP := KX h p1 p2
    have hpl : p.length = (xp l).length := by rw [p1.length_eq, List.length_range]
    refine ⟨rfl, fun h => h, rfl, hmk, fun i j hi hj => ?_⟩
    have : (p.map fun i => (xp l).getD i zV.dflt).getD i zV.dflt = (xp l).getD (p.getD i 0) zV.dflt := by
     simp [List.getD_eq_getElem?_getD, List.getElem?_map, List.getElem?_eq_getElem (show i < p.length by omega)]
    show zd (zV.enc ((xp l).getD (p.getD i 0) zV.dflt) j) (zV.enc ((Zl l).getD i zV.dflt) j)
    rw [hP, this]
    exact zS _
   ·rw [Nat.beq_refl] at c; cases c
theorem Kd {G : List (Nat × Obj)} (hG : zo G) (l : List Tm) (h : XL l) : zt Tryz.prog G 20 [Ze l] (.tup 2 (zw [Ze (Zl l), .i 0])) :=
 zW (T := HD G l) (an := K2 l) mixed (OW hG l) (Eq.mp (by kernel_rfl) (JH G l h))
theorem pz {G : List (Nat × Obj)} (hG : zo G) : zp Tryz.prog G 20 TY := by
 intro xs ps r h hp
 unfold TY at h
 split at h
 ·skip
  rename_i x_l
  cases h
  obtain ⟨q0, q1, -⟩ := ZI hp
  exact weaken (ys := [Ze (Zs (α := Tm) x_l)]) ⟨zI q0, trivial⟩ (Kd hG (Zs (α := Tm) x_l) q1)
 ·cases h
end Go.Te
