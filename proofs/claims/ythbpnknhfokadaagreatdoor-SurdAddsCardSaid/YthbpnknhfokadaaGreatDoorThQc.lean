/- root: the normal form and the ratio of roots, of numbers with few digits. -/
import Derived.Test.YthbpnknhfokadaaGreatDoorThQa
import Derived.Test.YthbpnknhfokadaaGreatDoorArZ
import Derived.Shelf.SlLaysF0
import Derived.Shelf.SlSortCmp.NoneTotal
import Derived.Test.YthbpnknhfokadaaGreatDoorSxSo
import Derived.Test.YthbpnknhfokadaaGreatDoorThS
import Derived.Test.YthbpnknhfokadaaGreatDoorProg
import Derived.Test.YthbpnknhfokadaaGreatDoorThIf
set_option linter.unusedSimpArgs false
set_option linter.unusedVariables false
namespace Go.Te
open Go Go.Sx Go.Proofs Go.Ar
set_option maxRecDepth 100000
set_option maxHeartbeats 4000000
def SO : List AV → Option (List zn × AV)
 | [.v (.int .i64 n), .v (.int .i64 d)] => some ([.p (0 < n), .p (0 < d ∧ d ≤ 10000000000000000), .p (n * d ≤ 100000000000000000)], .tup 2 (zw [.str (ZX (nrm (n * d).toNat).1 d.toNat), .str (Lib.itoa (nrm (n * d).toNat).2)]))
 | _ => none
theorem Ls {G : List (Nat × Obj)} (hG : zo G) : zp Tryz.prog G 124 SO := by
 intro xs ps r h hp
 unfold SO at h
 split at h
 ·rename_i n d
  cases h
  obtain ⟨q0, q1, q2, -⟩ := ZH hp
  have hs := Pb hG
  obtain ⟨_, t, fr, G', rfl⟩ := hG
  exact zW mixed hs (Eq.mp (by kernel_rfl) (oL t fr G' n d q0 q1 q2) : vV Tryz.prog (I8 ((2, Obj.cells zm t fr) :: G')) 124 (mN (n * d).toNat) [.i n, .i d] (.tup 2 (zw [.str (ZX (nrm (n * d).toNat).1 d.toNat), .str (Lib.itoa (nrm (n * d).toNat).2)])))
 ·cases h
theorem Tk {a : zj} (h : zh a = 0) (h0 : 0 ≤ ze a) : zL a = false := by
 have h2 := Rat.num_nonneg.2 h0
 rw [(ZB h).1] at h2
 have := (TP (a := a)).1
 cases hm : zL a with
 | false => rfl
 | true =>
  rw [hm, cond_true] at this
  have hz : zM a = 0 := by omega
  have e := X1 (ZT.1 h).1
  rw [hz] at e
  rw [← e] at hm
  have : ∀ r : zj, zL (Lib.itoa ((0 : Nat) : Int) ++ r) = false := fun r => by rw [Go.Ar.Z5, zA (by omega)]; rfl
  have := this (bif Nat.beq (zP a) 1 then [] else 47 :: Lib.decDigits (zP a))
  unfold YP at hm
  rw [show Lib.itoa (0 : Int) = Lib.itoa ((0 : Nat) : Int) from rfl, this] at hm
  cases hm
theorem Ld {n : Int} (h : 0 ≤ n) : zL (Lib.itoa n) = false ∧ zR (Lib.itoa n) = Lib.itoa n := by
 obtain ⟨m, rfl⟩ : ∃ m : Nat, n = m := ⟨n.toNat, by omega⟩
 have hd := (Zt.1 (Yw m))
 have hm : zL (Lib.itoa (m : Int)) = false := by
  rw [Go.Ar.Z5]
  match hq : Lib.decDigits m, hd with
  | c :: r, hd =>
   have := y5.1 (hd.2.1 c List.mem_cons_self)
   exact beq_eq_false_iff_ne.2 fun e => by subst e; exact absurd this.1 (by decide)
 refine ⟨hm, ?_⟩
 unfold zR
 rw [hm]; rfl
theorem TB (n : Int) : (zR (Lib.itoa n)).length = xC n := by
 by_cases h : 0 ≤ n
 ·rw [(Ld h).2, x6, if_neg (by omega)]; rfl
 ·have e : Lib.itoa n = 45 :: Lib.decDigits n.natAbs := by
   have := Go.Ar.itoa_neg (n := n.natAbs) (by omega)
   rw [show -((n.natAbs : Nat) : Int) = n by omega] at this
   exact this
  rw [e]
  show (Lib.decDigits n.natAbs).length = _
  rw [Lib.decDigits_length]; rfl
def Iz (r : AV) : List AV → Option (List zn × AV) := fun _ => some ([.p False], r)
theorem Q5 {P : Program} {G : List (Nat × Obj)} {f : FuncId} (r : AV) : zp P G f (Iz r) := by
 intro xs ps r' h hp
 cases h
 exact (hp _ List.mem_cons_self).elim
def SE : List AV → Option (List zn × AV)
 | [.str a] => some ([.p (YQ 300 a)], .agg 2 (zw [.str (Lib.itoa (ze a).num), .str (Lib.itoa ((ze a).den : Int))]))
 | _ => none
theorem ji (G : List (Nat × Obj)) (a : List UInt8) (hr : YQ 300 a) :
 ZV [AV.str a] → YQ 300 a ∧ 2 = 2 ∧ Lib.itoa (Rat.num (ze a)) = Lib.itoa (Rat.num (ze a)) ∧ Lib.itoa (cI (Rat.den (ze a))) = Lib.itoa (cI (Rat.den (ze a))) := by
 delta cI
 intro hb
 simp only [sS, dS]
 exact hr
theorem JD {G : List (Nat × Obj)} (hG : zo G) (a : List UInt8) (hr : YQ 300 a) : zt Tryz.prog G 112 [.str a] (.agg 2 (zw [.str (Lib.itoa (ze a).num), .str (Lib.itoa ((ze a).den : Int))])) :=
 zW (T := (Wm G).plus 85 TH) (an := .auto) mixed (zz.plus zQ (Rk hG)) (Eq.mp (by kernel_rfl) (ji G a hr))
theorem nG {G : List (Nat × Obj)} (hG : zo G) : zp Tryz.prog G 112 SE := by
 intro xs ps r h hp
 unfold SE at h
 split at h
 ·skip
  rename_i a
  cases h
  obtain ⟨q0, -⟩ := ZH hp
  exact weaken (ys := [.str a]) ⟨zS _, trivial⟩ (JD hG a q0)
 ·cases h
def Vd : List AV → Option (List zn × AV)
 | [.str m] => some ([.p (ZZ m = true), .p (m.length ≤ 17)], .tup 2 (zw [.i (zY m), .b true]))
 | _ => none
theorem Og (m : List UInt8) (hi : ZZ m = true) (hl : m.length ≤ 17) :
 ZV [AV.str m] → zZ (zg (17 : Int) (lZ m)) (j2 ∧ (True ∧ kI ∧ iZ = zY m) ∧ false = true) (bF (ZZ m) (lN m ≤ 18 ∧ j2 ∧ (True ∧ kI ∧ zY m = zY m) ∧ true = true)) := by
 delta bF kI j2 lZ lN iZ
 intro hb
 simp only [sS, dS]
 refine ⟨fun h => by omega, fun _ => ?_⟩
 rw [hi]
 exact ⟨by omega, rfl⟩
theorem Lf (m : List UInt8) (hi : ZZ m = true) (hl : m.length ≤ 17) : zt Tryz.prog [] 123 [.str m] (.tup 2 (zw [.i (zY m), .b true])) :=
 zW (T := T0.plus 145 v8) (an := .auto) mixed (zz.plus zQ si) (Eq.mp (by kernel_rfl) (Og m hi hl))
theorem QN : zp Tryz.prog [] 123 Vd := by
 intro xs ps r h hp
 unfold Vd at h
 split at h
 ·skip
  rename_i m
  cases h
  obtain ⟨q0, q1, -⟩ := ZH hp
  exact weaken (ys := [.str m]) ⟨zS _, trivial⟩ (Lf m q0 q1)
 ·cases h
def sC : List AV → Option (List zn × AV)
 | [.str s, .str p] => some ([.b (p == [45]), .p (zL s = false)], .b false)
 | _ => none
theorem Lx : zp Tryz.prog [] 44 sC := by
 intro xs ps r h hp
 unfold sC at h
 split at h
 ·rename_i s p
  cases h
  have q : (p == [45]) = true := hp _ List.mem_cons_self
  have q1 : zL s = false := hp _ (List.mem_cons_of_mem _ List.mem_cons_self)
  have : zt Tryz.prog [] 44 [.str s, .str p] (.b (zL s)) := Ss [.str s, .str p] _ _ rfl fun c hc => by
   rw [List.mem_singleton] at hc
   rw [hc]; exact q
  rw [q1] at this
  exact this
 ·cases h
noncomputable def IQ (G : List (Nat × Obj)) : Tb := (((((Wm G).plus 43 sA).plus 112 SE).plus 95 (YO fun s => .str (zR s))).plus 44 sC).body Tryz.prog [(154, .auto)]
theorem ta {G : List (Nat × Obj)} (hG : zo G) : zz Tryz.prog (IQ G) := zz.body mixed (zz.plus (zz.plus (zz.plus (zz.plus zQ (qQ hG)) (nG hG)) (zp.mono vX)) (zp.mono Lx)) _
def li  : yW :=
 .two .auto (.two (.two .auto (.one (.unroll 2 .auto))) (.two (.two .auto (.one (.unroll 2 .auto))) .auto))
def lK  : yW :=
 .two .auto (.two (.two .auto (.one (.unroll 3 .auto))) (.two (.two .auto (.one (.unroll 3 .auto))) .auto))
theorem Ns {x : Rat} (h : bq 90 x) : (zR (Lib.itoa x.num)).length ≤ 90 ∧ (Lib.itoa (x.den : Int)).length ≤ 90 := by
 rw [TB, Go.Ar.Z5, Lib.decDigits_length]
 exact ⟨xR (by decide) h.1, (Zx (by decide)).2 h.2⟩
structure Pr (a : zj) : Prop where
 ok : YQ 90 a
 pos : 0 ≤ ze a
theorem SQ {a : zj} (h : Pr a) : YQ 300 a ∧ (zR (Lib.itoa (ze a).num)).length ≤ 90 ∧ (Lib.itoa ((ze a).den : Int)).length ≤ 90 ∧ zL a = false := ⟨h.1.mono (by decide), (Ns h.1.2).1, (Ns h.1.2).2, Tk h.1.1 h.2⟩
theorem kz (G : List (Nat × Obj)) (a : zj) (ha : Pr a) :
 let q1 := (lZ (Lib.itoa (cI (Rat.den (ze a))))); let q2 := (lZ (zR (Lib.itoa (Rat.num (ze a))))); ZV [AV.xl false 1 1 fun (x x_1 : Nat) => AV.str a, AV.xl false 1 1 fun (x x_1 : Nat) => AV.str a] → YQ 300 a ∧ YQ 300 a ∧ zZ (zg (90 : Int) (if q1 > q2 then q1 else q2)) (kI ∧ (4 : Int) = iZ) (zL a = false ∧ kI ∧ iZ = iZ) := by
 delta cI kI lZ iZ
 dsimp only
 intro hb
 simp only [sS, dS]
 obtain ⟨a1, a2, a3, a4⟩ := SQ ha
 exact ⟨a1, a1, fun h => by split at h <;> omega, fun _ => a4⟩
theorem mg (G : List (Nat × Obj)) (a b : zj) (ha : Pr a) (hc : Pr b) :
 let q1 := (lZ (Lib.itoa (cI (Rat.den (ze a))))); let q2 := (lZ (zR (Lib.itoa (Rat.num (ze a))))); let q3 := (kI ∧ (4 : Int) = iZ); let q4 := (lZ (Lib.itoa (cI (Rat.den (ze b))))); let q5 := (lZ (zR (Lib.itoa (Rat.num (ze b))))); ZV [AV.xl false 1 2 fun (i x : Nat) => zw [AV.str a, AV.str b] i, AV.xl false 1 2 fun (i x : Nat) => zw [AV.str a, AV.str b] i] → YQ 300 a ∧ YQ 300 a ∧ zZ (zg (90 : Int) (if q1 > q2 then q1 else q2)) q3 (YQ 300 b ∧ YQ 300 b ∧ zZ (zg (90
 : Int) (if q4 > q5 then q4 else q5)) q3 (zL a = false ∧ zL b = false ∧ kI ∧ iZ = iZ)) := by
 delta cI kI lZ iZ
 dsimp only
 intro hb
 simp only [sS, dS]
 obtain ⟨a1, a2, a3, a4⟩ := SQ ha
 obtain ⟨b1, b2, b3, b4⟩ := SQ hc
 exact ⟨a1, a1, fun h => by split at h <;> omega, fun _ => ⟨b1, b1, fun h => by split at h <;> omega, fun _ => ⟨a4, b4⟩⟩⟩
theorem pq {f : Bool} {x : Nat → Nat → AV} {a : zj} (h : Zm (x 0 0) = true) (e : AV.bytes (x 0 0) = a) : zE (.xl f 1 1 x) (.xl false 1 1 fun _ _ => .str a) := by
 refine ⟨(fun h => by cases h), rfl, rfl, fun i j hi hj => ?_⟩
 obtain rfl : i = 0 := by omega
 obtain rfl : j = 0 := by omega
 rw [← e]
 exact ZU (Xz h)
theorem QC {f : Bool} {x : Nat → Nat → AV} {a b : zj} (h : Zm (x 0 0) = true) (h2 : Zm (x 1 0) = true) (e : AV.bytes (x 0 0) = a) (e2 : AV.bytes (x 1 0) = b) : zE (.xl f 1 2 x) (.xl false 1 2 fun i _ => zw [.str a, .str b] i) := by
 refine ⟨(fun h => by cases h), rfl, rfl, fun i j hi hj => ?_⟩
 obtain rfl : j = 0 := by omega
 rw [← e, ← e2]
 match i, hi with
 | 0, _ => exact ZU (Xz h)
 | 1, _ => exact ZU (Xz h2)
def QJ : List AV → Option (List zn × AV)
 | [.xl _ 1 1 x, .xl _ 1 1 y] => some ([.b (Zm (x 0 0) && Zm (y 0 0) && (AV.bytes (y 0 0) == AV.bytes (x 0 0))), .p (Pr (AV.bytes (x 0 0)))], .i 0)
 | [.xl _ 1 2 x, .xl _ 1 2 y] => some ([.b (Zm (x 0 0) && Zm (x 1 0) && Zm (y 0 0) && Zm (y 1 0) && (AV.bytes (y 0 0) == AV.bytes (x 0 0)) && (AV.bytes (y 1 0) == AV.bytes (x 1 0))), .p (Pr (AV.bytes (x 0 0))), .p (Pr (AV.bytes (x 1 0)))], .i 0)
 | _ => none
theorem kJ {G : List (Nat × Obj)} (hG : zo G) : zp Tryz.prog G 110 QJ := by
 intro xs ps r h hp
 unfold QJ at h
 split at h
 ·rename_i x _ y
  cases h
  have q0 : (Zm (x 0 0) && Zm (y 0 0) && (AV.bytes (y 0 0) == AV.bytes (x 0 0))) = true := hp _ List.mem_cons_self
  have q1 := hp _ (List.mem_cons_of_mem _ List.mem_cons_self)
  simp only [Bool.and_eq_true, beq_iff_eq] at q0
  exact weaken (ys := [_, _]) ⟨pq q0.1.1 rfl, pq q0.1.2 q0.2, trivial⟩ (zW mixed (ta hG) (Eq.mp (by kernel_rfl) (kz G (AV.bytes (x 0 0)) q1) : vV Tryz.prog (IQ G) 110 li [.xl false 1 1 (fun _ _ => .str (AV.bytes (x 0 0))), .xl false 1 1 (fun _ _ => .str (AV.bytes (x 0 0)))] (.i 0)))
 ·rename_i x _ y
  cases h
  have q0 : (Zm (x 0 0) && Zm (x 1 0) && Zm (y 0 0) && Zm (y 1 0) && (AV.bytes (y 0 0) == AV.bytes (x 0 0)) && (AV.bytes (y 1 0) == AV.bytes (x 1 0))) = true := hp _ List.mem_cons_self
  have q1 := hp _ (List.mem_cons_of_mem _ List.mem_cons_self)
  have q2 := hp _ (List.mem_cons_of_mem _ (List.mem_cons_of_mem _ List.mem_cons_self))
  simp only [Bool.and_eq_true, beq_iff_eq] at q0
  exact weaken (ys := [_, _]) ⟨QC q0.1.1.1.1.1 q0.1.1.1.1.2 rfl rfl, QC q0.1.1.1.2 q0.1.1.2 q0.1.2 q0.2, trivial⟩ (zW mixed (ta hG) (Eq.mp (by kernel_rfl) (mg G (AV.bytes (x 0 0)) (AV.bytes (x 1 0)) q1 q2) : vV Tryz.prog (IQ G) 110 lK [.xl false 1 2 (fun i _ => zw [.str (AV.bytes (x 0 0)), .str (AV.bytes (x 1 0))] i), .xl false 1 2 (fun i _ => zw [.str (AV.bytes (x 0 0)), .str (AV.bytes (x 1 0))] i)] (.i 0)))
 ·cases h
theorem R7 (n : Int) : 0 < xC n := by
 unfold xC
 rw [← Lib.decDigits_length]
 exact yk _
theorem wo (n : Int) : n.natAbs < 10 ^ xC n := (Zx (R7 n)).1 (Nat.le_refl _)
theorem rT {n : Int} (h : n ≠ 0) : (Lib.itoa n == [48]) = false := beq_eq_false_iff_ne.2 fun e => by
 have := (zC n).2
 rw [e] at this
 have h0 : zY [48] = 0 := by decide
 omega
theorem wB (k : Nat) : zT (k : Rat) = Lib.itoa (k : Int) := by rw [← Rat.intCast_natCast, uQ]
structure mj (a : zj) : Prop where
 ok : YQ 90 a
 pos : 0 < ze a
 len : xC (ze a).num + Lib.nDigits (ze a).den ≤ 17
noncomputable def Ia (G : List (Nat × Obj)) : Tb := ((((((Wm G).plus 110 QJ).plus 112 SE).plus 123 Vd).plus 124 SO).plus 125 (Iz (.str []))).plus 126 (Iz .junk)
theorem PI {G : List (Nat × Obj)} (hG : zo G) : zz Tryz.prog (Ia G) := zz.plus (zz.plus (zz.plus (zz.plus (zz.plus (zz.plus zQ (kJ hG)) (nG hG)) (zp.mono QN)) (Ls hG)) (Q5 _)) (Q5 _)
def nK (x : Rat) : Rat := mkRat (nrm (mQ x)).1 x.den
def nL (x : Rat) : Rat := ((nrm (mQ x)).2 : Rat)
def VD : List AV → Option (List zn × AV)
 | [.str q] => some ([.p (mj q)], .tup 3 (zw [.str (zT (nK (ze q))), .str (zT (nL (ze q))), .i 0]))
 | _ => none
theorem mq (G : List (Nat × Obj)) (q : List UInt8) (hr : mj q) :
 ZV [AV.str q] → zZ (Zm (AV.str q) && Zm (AV.str q) && AV.bytes (AV.str q) == AV.bytes (AV.str q)) (Pr (AV.bytes (AV.str q)) ∧ YQ 300 q ∧ zZ (Lib.itoa (Rat.num (ze q)) == bA #[(48 : UInt8)]) (3 = lN [AV.junk, AV.junk, AV.junk] ∧ ((True ∧ bA #[(48 : UInt8)] = zT (nK (ze q))) ∧ bA #[(49 : UInt8)] = zT (nL (ze q))) ∧ kI ∧ iZ = iZ) (bF (DB.db (yn .i64 ((lZ (Lib.itoa (Rat.num (ze q)))) +
 (lZ (Lib.itoa (cI (Rat.den (ze q)))))))) (zZ (leB ((lZ (Lib.itoa (Rat.num (ze q)))) + (lZ (Lib.itoa (cI (Rat.den (ze q)))))) (17 : Int)) (ZZ (Lib.itoa (Rat.num (ze q))) = true ∧ lN (Lib.itoa (Rat.num (ze q))) ≤ 17 ∧ ZZ (Lib.itoa (cI (Rat.den (ze q)))) = true ∧ lN (Lib.itoa (cI (Rat.den (ze q)))) ≤ 17 ∧ iZ < zY (Lib.itoa (Rat.num (ze q))) ∧ (iZ < zY (Lib.itoa (cI (Rat.den (ze q)))) ∧ zY (Lib.itoa (cI (Rat.den (ze q)))) ≤ (10000000000000000 : Int)) ∧ zY (Lib.itoa
 (Rat.num (ze q))) * zY (Lib.itoa (cI (Rat.den (ze q)))) ≤ (100000000000000000 : Int) ∧ 3 = lN [AV.junk, AV.junk, AV.junk] ∧ ((True ∧ ZX (↑(Prod.fst (nrm (Int.toNat (zY (Lib.itoa (Rat.num (ze q))) * zY (Lib.itoa (cI (Rat.den (ze q)))))))) : Int) (Int.toNat (zY (Lib.itoa (cI (Rat.den (ze q)))))) = zT (nK (ze q))) ∧ Lib.itoa (↑(Prod.snd (nrm (Int.toNat (zY (Lib.itoa (Rat.num (ze q))) * zY (Lib.itoa (cI (Rat.den (ze q)))))))) : Int) = zT (nL (ze q))) ∧ kI ∧ iZ = iZ) (False ∧ False ∧ Ze (Operand.tmp 66)))))
 False := by
 delta bF bA cI kI lZ lN iZ
 intro hb
 simp only [sS, dS]
 have hc : Pr q := ⟨hr.ok, Rat.le_of_lt hr.pos⟩
 have c1 : (Zm (AV.str q) && Zm (AV.str q) && (AV.str q).bytes == (AV.str q).bytes) = true := by
  show (true && true && (q == q)) = true
  simp
 have h300 := hr.ok.mono (k := 300) (by decide)
 have hl := hr.len
 have hp := hr.pos
 generalize ze q = x at *
 have hn : 0 < x.num := by
  have := Rat.num_nonneg.2 (Rat.le_of_lt hp)
  have h2 : x.num ≠ 0 := fun e => (Rat.ne_of_gt hp) (Rat.num_eq_zero.1 e)
  omega
 have hd := x.den_pos
 have l1 : (Lib.itoa x.num).length = xC x.num := by rw [x6, if_neg (by omega)]; rfl
 have l2 : (Lib.itoa (x.den : Int)).length = Lib.nDigits x.den := by rw [Go.Ar.Z5, Lib.decDigits_length]
 have b1 := wo x.num
 have b2 := wo (x.den : Int)
 have e2 : xC (x.den : Int) = Lib.nDigits x.den := by unfold xC; rw [Int.natAbs_natCast]
 rw [e2, Int.natAbs_natCast] at b2
 have b3 : x.num.natAbs * x.den < 10 ^ 17 := by
  refine Nat.lt_of_lt_of_le (Nat.mul_lt_mul'' b1 b2) ?_
  rw [← Nat.pow_add]
  exact Nat.pow_le_pow_right (by omega) hl
 have p1 := R7 x.num
 have b4 : x.den < 10 ^ 16 := Nat.lt_of_lt_of_le b2 (Nat.pow_le_pow_right (by omega) (by omega))
 rw [show 10 ^ 16 = 10000000000000000 from by decide] at b4
 rw [show 10 ^ 17 = 100000000000000000 from by decide] at b3
 have i1 := zC x.num
 have i2 := zC (x.den : Int)
 have z1 : (Lib.itoa x.num == [48]) = false := rT (by omega)
 have em : (x.num * (x.den : Int)).toNat = mQ x := by
  unfold mQ
  obtain ⟨N, hN⟩ : ∃ N : Nat, x.num = N := ⟨x.num.toNat, by omega⟩
  rw [hN, ← Int.natCast_mul, Int.toNat_natCast, Int.toNat_natCast]
 have eb : x.num * (x.den : Int) ≤ 100000000000000000 := by
  obtain ⟨N, hN⟩ : ∃ N : Nat, x.num = N := ⟨x.num.toNat, by omega⟩
  rw [hN, Int.natAbs_natCast] at b3
  rw [hN, ← Int.natCast_mul]
  omega
 rw [i1.2, i2.2, em, l1, l2, z1]
 refine zX.2 ⟨fun _ => ⟨hc, h300, ?_⟩, fun c => by rw [c1] at c; cases c⟩
 show yn .i64 _ ∧ _
 refine ⟨by simp only [yn]; omega, fun _ => ⟨i1.1, by omega, i2.1, by omega, hn, ⟨by omega, by omega⟩, eb, rfl, ?_, ?_⟩, fun h => by omega⟩
 ·rw [Int.toNat_natCast, YK _ hd]; rfl
 ·exact (wB _).symm
theorem M4 {G : List (Nat × Obj)} (hG : zo G) (q : List UInt8) (hr : mj q) : zt Tryz.prog G 83 [.str q] (.tup 3 (zw [.str (zT (nK (ze q))), .str (zT (nL (ze q))), .i 0])) :=
 zW (T := Ia G) (an := .auto) mixed (PI hG) (Eq.mp (by kernel_rfl) (mq G q hr))
theorem Qd {G : List (Nat × Obj)} (hG : zo G) : zp Tryz.prog G 83 VD := by
 intro xs ps r h hp
 unfold VD at h
 split at h
 ·skip
  rename_i q
  cases h
  obtain ⟨q0, -⟩ := ZH hp
  exact weaken (ys := [.str q]) ⟨zS _, trivial⟩ (M4 hG q q0)
 ·cases h
noncomputable def HS (G : List (Nat × Obj)) : Tb := (((oJ G).plus 123 Vd).plus 166 Va).plus 117 (Iz (.tup 2 (zw [.str [], .i 0]))) |>.plus 125 (Iz (.str []))
theorem P6 {G : List (Nat × Obj)} (hG : zo G) : zz Tryz.prog (HS G) := zz.plus (zz.plus (zz.plus (zz.plus (y8 hG) (zp.mono QN)) (zp.mono Q8)) (Q5 _)) (Q5 _)
def Rm : List AV → Option (List zn × AV)
 | [.str m] => some ([.p (ZZ m = true), .p (m.length ≤ 17), .p (0 ≤ zY m)], .tup 2 (zw [.str (Lib.itoa (yc (zY m).toNat : Int)), .b (Nat.beq (yc (zY m).toNat * yc (zY m).toNat) (zY m).toNat)]))
 | _ => none
theorem L8 (G : List (Nat × Obj)) (m : List UInt8) (hi : ZZ m = true) (hl : m.length ≤ 17) (h0 : 0 ≤ zY m) :
 ZV [AV.str m] → ZZ m = true ∧ lN m ≤ 17 ∧ (iZ ≤ zY m ∧ zY m ≤ (1000000000000000000 : Int)) ∧ (iN ≤ (cI (yc (Int.toNat (zY m)))) ∧ (cI (yc (Int.toNat (zY m)))) ≤ iX) ∧ bF (DB.db (yn .i64 ((cI (yc (Int.toNat (zY m)))) * (cI (yc (Int.toNat (zY m))))))) (j2 ∧ (True ∧ Lib.itoa (cI (yc (Int.toNat (zY m)))) = Lib.itoa (cI (yc (Int.toNat (zY m))))) ∧ ((cI (yc (Int.toNat (zY m)))) * (cI (yc (Int.toNat (zY m)))) == zY m) = Nat.beq (yc
 (Int.toNat (zY m)) * yc (Int.toNat (zY m))) (Int.toNat (zY m))) := by
 delta bF cI j2 lN iZ iX iN
 intro hb
 simp only [sS, dS]
 obtain ⟨m', hm⟩ : ∃ k : Nat, zY m = k := ⟨(zY m).toNat, by omega⟩
 have hb2 : (zY m).natAbs < 10 ^ 17 := Nat.lt_of_lt_of_le (oU hi) (Nat.pow_le_pow_right (by omega) hl)
 rw [show 10 ^ 17 = 100000000000000000 from by decide] at hb2
 rw [hm, Int.natAbs_natCast] at hb2
 rw [hm, Int.toNat_natCast]
 obtain ⟨s1, s2⟩ := xY (n := m') (by omega)
 have hr : yc m' < 1000000000 := Xk (by omega)
 refine ⟨hi, hl, ⟨by omega, by omega⟩, ⟨by omega, by omega⟩, by rw [← Int.natCast_mul]; simp only [yn]; omega, rfl, ?_⟩
 rw [← Int.natCast_mul, Bool.eq_iff_iff, beq_iff_eq, Nat.beq_eq]
 omega
theorem Kh {G : List (Nat × Obj)} (hG : zo G) (m : List UInt8) (hi : ZZ m = true) (hl : m.length ≤ 17) (h0 : 0 ≤ zY m) : zt Tryz.prog G 127 [.str m] (.tup 2 (zw [.str (Lib.itoa (yc (zY m).toNat : Int)), .b (Nat.beq (yc (zY m).toNat * yc (zY m).toNat) (zY m).toNat)])) :=
 zW (T := HS G) (an := .auto) mixed (P6 hG) (Eq.mp (by kernel_rfl) (L8 G m hi hl h0))
theorem Ju {G : List (Nat × Obj)} (hG : zo G) : zp Tryz.prog G 127 Rm := by
 intro xs ps r h hp
 unfold Rm at h
 split at h
 ·skip
  rename_i m
  cases h
  obtain ⟨q0, q1, q2, -⟩ := ZH hp
  exact weaken (ys := [.str m]) ⟨zS _, trivial⟩ (Kh hG m q0 q1 q2)
 ·cases h
structure ku (p q : zj) : Prop where
 fp : Pr p
 fq : Pr q
 pos : 0 < ze q
 num : xC (ze p / ze q).num ≤ 17
 den : Lib.nDigits (ze p / ze q).den ≤ 17
noncomputable def HY (G : List (Nat × Obj)) : Tb := ((((Wm G).plus 110 QJ).plus 112 SE).plus 66 nu).plus 127 Rm |>.body Tryz.prog [(111, .auto), (128, .auto)] |>.body Tryz.prog [(111, .auto)]
theorem pI {G : List (Nat × Obj)} (hG : zo G) : zz Tryz.prog (HY G) := zz.body mixed (zz.body mixed (zz.plus (zz.plus (zz.plus (zz.plus zQ (kJ hG)) (nG hG)) (Kf hG)) (Ju hG)) _) _
def uG : List AV → Option (List zn × AV)
 | [.str p, .str q] => some ([.p (ku p q)], .tup 3 (zw [.str (bif yH (ze p) (ze q) then zT (ws (ze p) (ze q)) else []), .b (yH (ze p) (ze q)), .i 0]))
 | _ => none
theorem MW (G : List (Nat × Obj)) (p : List UInt8) (q : List UInt8) (hr : ku p q) :
 let q1 := ((True ∧ bA #[] = bif yH (ze p) (ze q) then zT (ws (ze p) (ze q)) else []) ∧ false = yH (ze p) (ze q)); let q2 := (Lib.itoa (Rat.num (ze (zT (ze p / ze q))))); let q3 := (Lib.itoa (cI (Rat.den (ze (zT (ze p / ze q)))))); let q5 := (Int.toNat (zY q2)); let q4 := (yc q5 * yc q5); let q6 := (Int.toNat (zY q3)); let q7 := (Lib.itoa (cI (yc q5))); let q8 := (Lib.itoa (cI (yc q6))); ZV [AV.str p, AV.str q] → bF (Zm (AV.str p) && Zm (AV.str q) && Zm (AV.str p) && Zm (AV.str q) && AV.bytes
 (AV.str p) == AV.bytes (AV.str p) && AV.bytes (AV.str q) == AV.bytes (AV.str q)) (Pr (AV.bytes (AV.str p)) ∧ Pr (AV.bytes (AV.str q)) ∧ zZ (q == bA #[(48 : UInt8)]) (3 = lN [AV.junk, AV.junk, AV.junk] ∧ q1 ∧ kI ∧ (12 : Int) = iZ) (Ix p q ∧ YQ 300 (zT (ze p / ze q)) ∧ ZZ q2 = true ∧ lN q2 ≤ 17 ∧ iZ ≤ zY q2 ∧ ZZ q3 = true ∧ lN q3 ≤ 17 ∧ iZ ≤ zY q3 ∧ bF (!zr false !Nat.beq q4 q5 || zr false !Nat.beq q4 q5) (zZ (!!!Nat.beq q4 q5 || zr false !Nat.beq q4 q5)
 (zZ (bif !Nat.beq q4 q5 then true else !Nat.beq (yc q6 * yc q6) q6) (3 = lN [AV.junk, AV.junk, AV.junk] ∧ q1 ∧ kI ∧ iZ = iZ) (Ix q7 q8 ∧ 3 = lN [AV.junk, AV.junk, AV.junk] ∧ ((True ∧ zT (ze q7 / ze q8) = bif yH (ze p) (ze q) then zT (ws (ze p) (ze q)) else []) ∧ true = yH (ze p) (ze q)) ∧ kI ∧ iZ = iZ)) False))) := by
 delta bF bA cI kI lN iZ
 dsimp only
 intro hb
 simp only [sS, dS]
 have c1 : (Zm (AV.str p) && Zm (AV.str q) && Zm (AV.str p) && Zm (AV.str q) && (AV.str p).bytes == (AV.str p).bytes && (AV.str q).bytes == (AV.str q).bytes) = true := by
  show (true && true && true && true && (p == p) && (q == q)) = true
  simp
 have hz : (q == [48]) = false := beq_eq_false_iff_ne.2 fun e => by
  have := hr.pos
  rw [e] at this
  exact absurd this (by decide +kernel)
 have hne : ze q ≠ 0 := Rat.ne_of_gt hr.pos
 have hb1 : bq 180 (ze p / ze q) := by
  rw [Rat.div_def]
  have h2 := hr.fq.ok.bq
  refine Ra (j := 90) (k := 90) hr.fp.ok.bq ⟨?_, ?_⟩
  ·rw [Rat.num_inv, Int.natAbs_mul, Int.natAbs_natCast]
   have hs : (ze q).num.sign.natAbs ≤ 1 := by rw [Int.natAbs_sign]; split <;> omega
   exact Nat.lt_of_le_of_lt (Nat.mul_le_mul_right _ hs) (by rw [Nat.one_mul]; exact h2.den)
  ·rw [Rat.den_inv, if_neg fun e => hne (Rat.num_eq_zero.1 e)]
   exact h2.num
 have hX : 0 ≤ ze p / ze q := by
  rw [Rat.div_def]
  exact Rat.mul_nonneg hr.fp.pos (Rat.le_of_lt (Rat.inv_pos.2 hr.pos))
 have hn := hr.num
 have hd := hr.den
 have hv : Ix p q := ⟨hr.fp.ok.mono (by decide), hr.fq.ok.mono (by decide), hne⟩
 have eB : yH (ze p) (ze q) = JA (ze p / ze q) := rfl
 have eV : ws (ze p) (ze q) = J0 (ze p / ze q) := rfl
 rw [eB, eV, hz]
 refine zX.2 ⟨fun _ => ⟨hr.fp, hr.fq, zX.2 ⟨fun c => (by cases c), fun _ => ⟨hv, (ZJ (by decide) (by decide)).2 (hb1.mono (by decide)), ?_⟩⟩⟩, fun c => by rw [c1] at c; cases c⟩
 simp only [zk, (zC _).2]
 generalize ze p / ze q = x at *
 have hx := Rat.num_nonneg.2 hX
 have b1 := wo x.num
 have e2 : xC (x.den : Int) = Lib.nDigits x.den := by unfold xC; rw [Int.natAbs_natCast]
 have b2 := wo (x.den : Int)
 rw [e2, Int.natAbs_natCast] at b2
 have k1 : x.num.natAbs < 10 ^ 17 := Nat.lt_of_lt_of_le b1 (Nat.pow_le_pow_right (by omega) hn)
 have k2 : x.den < 10 ^ 17 := Nat.lt_of_lt_of_le b2 (Nat.pow_le_pow_right (by omega) hd)
 have k3 : (10 : Nat) ^ 17 = 100000000000000000 := by decide
 rw [k3] at k1 k2
 have l1 : (Lib.itoa x.num).length ≤ 17 := by rw [x6, if_neg (by omega)]; omega
 have l2 : (Lib.itoa (x.den : Int)).length ≤ 17 := by rw [Go.Ar.Z5, Lib.decDigits_length]; exact hd
 obtain ⟨N, hN⟩ : ∃ N : Nat, x.num = N := ⟨x.num.toNat, by omega⟩
 have dp := x.den_pos
 refine ⟨(zC _).1, l1, hx, (zC _).1, l2, by omega, ?_⟩
 unfold JA J0
 rw [Int.toNat_natCast]
 obtain ⟨s1, s2⟩ := xY (n := x.num.toNat) (by omega)
 obtain ⟨t1, t2⟩ := xY (n := x.den) (by omega)
 have r1 : yc x.num.toNat < 1000000000 := Xk (by omega)
 have r2 : yc x.den < 1000000000 := Xk (by omega)
 have oi : ∀ a : Nat, a < 1000000000 → YQ 140 (Lib.itoa (a : Int)) := fun a ha => by
  rw [← wB]
  refine (ZJ (by decide) (by decide)).2 (bq.mono (j := 9) ⟨?_, ?_⟩ (by decide))
  ·rw [Rat.num_natCast, Int.natAbs_natCast]; exact ha
  ·rw [Rat.den_natCast]; decide
 have qi : ∀ a : Nat, ze (Lib.itoa (a : Int)) = (a : Rat) := fun a => by rw [← wB, zk]
 rw [qi, qi]
 refine zX.2 ⟨fun c => ?_, fun c => ?_⟩
 ·have e : (Nat.beq (yc x.num.toNat * yc x.num.toNat) x.num.toNat && Nat.beq (yc x.den * yc x.den) x.den) = false := by
   cases h1 : Nat.beq (yc x.num.toNat * yc x.num.toNat) x.num.toNat with
   | false => rfl
   | true => rw [h1] at c; simpa using c
  rw [e]
  exact ⟨rfl, rfl, rfl⟩
 ·rw [Bool.or_eq_false_iff, Bool.not_eq_false', Bool.not_eq_false'] at c
  rw [c.1, c.2]
  have hd0 : yc x.den ≠ 0 := fun e => by have := (Nat.beq_eq ▸ c.2 : yc x.den * yc x.den = x.den); rw [e] at this; omega
  refine ⟨⟨oi _ r1, oi _ r2, ?_⟩, rfl, ?_, rfl⟩
  ·rw [qi]
   exact fun e => hd0 (Rat.natCast_eq_zero_iff.1 e)
  ·show zT _ = zT _
   rw [Rat.mkRat_eq_div]; rfl
theorem j9 {G : List (Nat × Obj)} (hG : zo G) (p : List UInt8) (q : List UInt8) (hr : ku p q) : zt Tryz.prog G 74 [.str p, .str q] (.tup 3 (zw [.str (bif yH (ze p) (ze q) then zT (ws (ze p) (ze q)) else []), .b (yH (ze p) (ze q)), .i 0])) :=
 zW (T := HY G) (an := .auto) mixed (pI hG) (Eq.mp (by kernel_rfl) (MW G p q hr))
theorem qV {G : List (Nat × Obj)} (hG : zo G) : zp Tryz.prog G 74 uG := by
 intro xs ps r h hp
 unfold uG at h
 split at h
 ·skip
  rename_i p q
  cases h
  obtain ⟨q0, -⟩ := ZH hp
  exact weaken (ys := [.str p, .str q]) ⟨zS _, zS _, trivial⟩ (j9 hG p q q0)
 ·cases h
end Go.Te

namespace Go.Te
open Go Go.Sx Go.Proofs Go.Ar
set_option maxRecDepth 100000
set_option maxHeartbeats 4000000
def mh (s : zj) : Bool := zT (ze s) == s
theorem V5 (q : Rat) : mh (zT q) = true := by unfold mh; rw [zk]; exact beq_self_eq_true _
theorem O8 {x : AV} (h : (Zm x && mh (AV.bytes x)) = true) : zE x (.str (zT (ze (AV.bytes x)))) := by
 rw [Bool.and_eq_true] at h
 unfold mh at h
 rw [eq_of_beq h.2]
 exact ZU (Xz h.1)
instance : zU Tm := ⟨2, ⟨0, 0⟩, fun t => zw [.str (zT t.c), .str (zT t.q)], fun cs => ⟨ze (AV.bytes (cs 0)), ze (AV.bytes (cs 1))⟩, fun cs => (Zm (cs 0) && mh (AV.bytes (cs 0))) && (Zm (cs 1) && mh (AV.bytes (cs 1))), fun cs h j hj => by
 rw [Bool.and_eq_true] at h
 match j, hj with
 | 0, _ => exact O8 h.1
 | 1, _ => exact O8 h.2⟩
instance : y9 Tm := ⟨fun c => by
 show (⟨ze (zT c.c), ze (zT c.q)⟩ : Tm) = c
 rw [zk, zk], fun c => by
 show ((true && mh (zT c.c)) && (true && mh (zT c.q))) = true
 rw [V5, V5]; rfl⟩
theorem YN (c q : Rat) : Zn (AV.agg 2 (zw [AV.str (zT c), AV.str (zT q)])) = (⟨c, q⟩ : Tm) := WZ (⟨c, q⟩ : Tm)
theorem yK (c q : Rat) : yw Tm (AV.agg 2 (zw [AV.str (zT c), AV.str (zT q)])) = true := XE (⟨c, q⟩ : Tm)
def wD (x : Rat) : Int := if (Lib.nDigits x.den : Int) > (xC x.num : Int) then (Lib.nDigits x.den : Int) else (xC x.num : Int)
theorem W2 {x : Rat} {k : Nat} (hk : 0 < k) (h : bq k x) : wD x ≤ k := by
 have a1 : xC x.num ≤ k := xR hk h.num
 have a2 : Lib.nDigits x.den ≤ k := (Zx hk).2 h.den
 unfold wD
 split <;> omega
noncomputable def hJ (G : List (Nat × Obj)) : Tb := (((Wm G).plus 95 (YO fun s => .str (zR s))).body Tryz.prog [(86, .auto)]).plus 85 TH
theorem PU {G : List (Nat × Obj)} (hG : zo G) : zz Tryz.prog (hJ G) := zz.plus (zz.body mixed (zz.plus zQ (zp.mono vX)) _) (Rk hG)
def V0 : List AV → Option (List zn × AV)
 | [.str a] => some ([.p (YQ 300 a)], .i (wD (ze a)))
 | _ => none
theorem Of (G : List (Nat × Obj)) (a : List UInt8) (hr : YQ 300 a) :
 let q1 := (↑(lN (zR (Lib.itoa (cI (Rat.den (ze a)))))) : Int); let q2 := (lZ (zR (Lib.itoa (Rat.num (ze a))))); ZV [AV.str a] → YQ 300 a ∧ kI ∧ (if q1 > q2 then q1 else q2) = wD (ze a) := by
 delta cI kI lZ lN
 dsimp only
 intro hb
 simp only [sS, dS]
 refine ⟨hr, ?_⟩
 rw [TB, TB]
 have e2 : xC ((ze a).den : Int) = Lib.nDigits (ze a).den := by unfold xC; rw [Int.natAbs_natCast]
 rw [e2]; rfl
theorem My {G : List (Nat × Obj)} (hG : zo G) (a : List UInt8) (hr : YQ 300 a) : zt Tryz.prog G 47 [.str a] (.i (wD (ze a))) :=
 zW (T := hJ G) (an := .auto) mixed (PU hG) (Eq.mp (by kernel_rfl) (Of G a hr))
theorem Qn {G : List (Nat × Obj)} (hG : zo G) : zp Tryz.prog G 47 V0 := by
 intro xs ps r h hp
 unfold V0 at h
 split at h
 ·skip
  rename_i a
  cases h
  obtain ⟨q0, -⟩ := ZH hp
  exact weaken (ys := [.str a]) ⟨zS _, trivial⟩ (My hG a q0)
 ·cases h
structure iK (x y : Tm) : Prop where
 ra : ku (zT y.q) (zT x.q)
 rel : yH y.q x.q = true
 cx : bq 100 x.c
 cy : bq 100 y.c
theorem L1 {p q : Rat} (h1 : xC (p / q).num ≤ 17) (h2 : Lib.nDigits (p / q).den ≤ 17) (h0 : 0 ≤ p / q) : bq 9 (ws p q) := by
 unfold ws J0
 generalize p / q = x at *
 have hx := Rat.num_nonneg.2 h0
 have b1 := wo x.num
 have e2 : xC (x.den : Int) = Lib.nDigits x.den := by unfold xC; rw [Int.natAbs_natCast]
 have b2 := wo (x.den : Int)
 rw [e2, Int.natAbs_natCast] at b2
 have k1 : x.num.natAbs < 10 ^ 17 := Nat.lt_of_lt_of_le b1 (Nat.pow_le_pow_right (by omega) h1)
 have k2 : x.den < 10 ^ 17 := Nat.lt_of_lt_of_le b2 (Nat.pow_le_pow_right (by omega) h2)
 have k3 : (10 : Nat) ^ 17 = 100000000000000000 := by decide
 have k4 : (10 : Nat) ^ 9 = 1000000000 := by decide
 rw [k3] at k1 k2
 obtain ⟨s1, s2⟩ := xY (n := x.num.toNat) (by omega)
 obtain ⟨t1, t2⟩ := xY (n := x.den) (by omega)
 have r1 : yc x.num.toNat < 1000000000 := Xk (by omega)
 have r2 : yc x.den < 1000000000 := Xk (by omega)
 have hd0 : yc x.den ≠ 0 := fun e => by rw [e] at t2; have := x.den_pos; omega
 exact tP (by omega) (by rw [Int.natAbs_natCast, k4]; exact r1) (by rw [k4]; exact r2)
noncomputable def HQ (G : List (Nat × Obj)) : Tb := (((Wm G).plus 74 uG).plus 40 UJ).plus 30 NJ
theorem oY {G : List (Nat × Obj)} (hG : zo G) : zz Tryz.prog (HQ G) := zz.plus (zz.plus (zz.plus zQ (qV hG)) (sX hG)) (JW hG)
def se : List AV → Option (List zn × AV)
 | [x_x, x_y] => some ([.b (yw Tm x_x), .b (yw Tm x_y), .p (iK (Zn (α := Tm) x_x) (Zn (α := Tm) x_y))], .tup 2 (zw [Yh (⟨(Zn (α := Tm) x_x).c + (Zn (α := Tm) x_y).c * ws (Zn (α := Tm) x_y).q (Zn (α := Tm) x_x).q, (Zn (α := Tm) x_x).q⟩ : Tm), .i 0]))
 | _ => none
theorem OD (G : List (Nat × Obj)) (x : Tm) (y : Tm) (hr : iK x y) :
 let q1 := (bif yH (ze (zT (Tm.q y))) (ze (zT (Tm.q x))) then zT (ws (ze (zT (Tm.q y))) (ze (zT (Tm.q x)))) else []); let q2 := (zT (ze (zT (Tm.c y)) * ze q1)); let q3 := (Tm.mk (Tm.c x + Tm.c y * ws (Tm.q y) (Tm.q x)) (Tm.q x)); ZV [AV.agg 2 (zU.enc x), AV.agg 2 (zU.enc y)] → ku (zT (Tm.q y)) (zT (Tm.q x)) ∧ oN 140 (zT (Tm.c y)) q1 ∧ oN 140 (zT (Tm.c x)) q2 ∧ j2 ∧ (True ∧ 2 = 2 ∧ zT (ze (zT (Tm.c x)) + ze q2) = zT (Tm.c q3) ∧ zT (Tm.q x) = zT (Tm.q q3)) ∧ kI ∧ iZ = iZ := by
 delta kI j2 iZ
 dsimp only
 intro hb
 simp only [sS, dS, zk]
 have hp := hr.ra.fp
 have hx := hr.ra.fq.pos
 have h1 := hr.ra.num
 have h2 := hr.ra.den
 have h3 := hr.ra.pos
 have h4 := hp.pos
 rw [zk] at h3 h4
 rw [zk, zk] at h1 h2
 have hX : 0 ≤ y.q / x.q := by
  rw [Rat.div_def]
  exact Rat.mul_nonneg h4 (Rat.le_of_lt (Rat.inv_pos.2 h3))
 have hv := L1 h1 h2 hX
 have hm := Ra hr.cy hv
 rw [hr.rel]
 simp only [cond_true, zk]
 exact ⟨hr.ra, ⟨(ZJ (by decide) (by decide)).2 (hr.cy.mono (by decide)), (ZJ (by decide) (by decide)).2 (hv.mono (by decide))⟩, ⟨(ZJ (by decide) (by decide)).2 (hr.cx.mono (by decide)), (ZJ (by decide) (by decide)).2 (hm.mono (by decide))⟩, rfl, trivial⟩
theorem mC {G : List (Nat × Obj)} (hG : zo G) (x : Tm) (y : Tm) (hr : iK x y) : zt Tryz.prog G 84 [Yh x, Yh y] (.tup 2 (zw [Yh (⟨x.c + y.c * ws y.q x.q, x.q⟩ : Tm), .i 0])) :=
 zW (T := HQ G) (an := .auto) mixed (oY hG) (Eq.mp (by kernel_rfl) (OD G x y hr))
theorem M8 {G : List (Nat × Obj)} (hG : zo G) : zp Tryz.prog G 84 se := by
 intro xs ps r h hp
 unfold se at h
 split at h
 ·skip
  rename_i x_x x_y
  cases h
  obtain ⟨q0, q1, q2, -⟩ := ZH hp
  exact weaken (ys := [Yh (Zn (α := Tm) x_x), Yh (Zn (α := Tm) x_y)]) ⟨Zu q0, Zu q1, trivial⟩ (mC hG (Zn (α := Tm) x_x) (Zn (α := Tm) x_y) q2)
 ·cases h
end Go.Te

namespace Go.Proofs
open Go.Shelf
def Tryz.pdqCut_ren : Go.Shelf.Ren := ⟨fun | 14 => 87 | 20 => 129 | 21 => 130 | 22 => 131 | 23 => 132 | 24 => 133 | 25 => 134 | 26 => 135 | 27 => 136 | 46 => 169 | 47 => 170 | 48 => 171 | 49 => 172 | 50 => 173 | 15 => 88 | 57 => 193 | 28 => 137 | 29 => 138 | n => n, fun | 24 => 49 | 22 => 25 | 3 => 3 | 25 => 82 | 4 => 4 | 0 => 0 | 46 => 178 | 45 => 177 | 50 => 166 | 66 => 221 | 39 => 127 | 55 => 160 | 70 => 225 | 76 => 241 | 77 => 234 | 53 => 184 | 5 => 5 | 9 => 9 | n => n, fun | n => n⟩
theorem Tryz.pdqCut : Go.Proofs.SlLaysF0.n14 Tryz.prog Tryz.pdqCut_ren := {
 mixed := by kernel_rfl
 f14 := ⟨Tryz.f87.name, by decide, Tryz.func87.trans (congrArg some (by kernel_rfl))⟩
 f15 := Tryz.func88.trans (congrArg some (by kernel_rfl))
 f20 := ⟨Tryz.f129.name, by decide, Tryz.func129.trans (congrArg some (by kernel_rfl))⟩
 f21 := ⟨Tryz.f130.name, by decide, Tryz.func130.trans (congrArg some (by kernel_rfl))⟩
 f22 := ⟨Tryz.f131.name, by decide, Tryz.func131.trans (congrArg some (by kernel_rfl))⟩
 f23 := ⟨Tryz.f132.name, by decide, Tryz.func132.trans (congrArg some (by kernel_rfl))⟩
 f24 := ⟨Tryz.f133.name, by decide, Tryz.func133.trans (congrArg some (by kernel_rfl))⟩
 f25 := ⟨Tryz.f134.name, by decide, Tryz.func134.trans (congrArg some (by kernel_rfl))⟩
 f26 := ⟨Tryz.f135.name, by decide, Tryz.func135.trans (congrArg some (by kernel_rfl))⟩
 f27 := ⟨Tryz.f136.name, by decide, Tryz.func136.trans (congrArg some (by kernel_rfl))⟩
 f28 := Tryz.func137.trans (congrArg some (by kernel_rfl))
 f29 := Tryz.func138.trans (congrArg some (by kernel_rfl))
 f46 := ⟨Tryz.f169.name, by decide, Tryz.func169.trans (congrArg some (by kernel_rfl))⟩
 f47 := Tryz.func170.trans (congrArg some (by kernel_rfl))
 f48 := Tryz.func171.trans (congrArg some (by kernel_rfl))
 f49 := ⟨Tryz.f172.name, by decide, Tryz.func172.trans (congrArg some (by kernel_rfl))⟩
 f50 := ⟨Tryz.f173.name, by decide, Tryz.func173.trans (congrArg some (by kernel_rfl))⟩
 f57 := ⟨Tryz.f193.name, by decide, Tryz.func193.trans (congrArg some (by kernel_rfl))⟩
 t0 := Tryz.underlying0
 a0 := Tryz.isAgg0
 z0 := Tryz.sizeOf0
 v0 := Tryz.zeroValue0
 t3 := Tryz.underlying3
 a3 := Tryz.isAgg3
 z3 := Tryz.sizeOf3
 v3 := Tryz.zeroValue3
 t4 := Tryz.underlying4
 a4 := Tryz.isAgg4
 z4 := Tryz.sizeOf4
 v4 := Tryz.zeroValue4
 t5 := Tryz.underlying5
 a5 := Tryz.isAgg5
 z5 := Tryz.sizeOf5
 v5 := Tryz.zeroValue5
 t9 := Tryz.underlying9
 a9 := Tryz.isAgg9
 z9 := Tryz.sizeOf9
 v9 := Tryz.zeroValue9
 t22 := Tryz.underlying25
 a22 := Tryz.isAgg25
 z22 := Tryz.sizeOf25
 v22 := Tryz.zeroValue25
 t25 := Tryz.underlying82
 a25 := Tryz.isAgg82
 z25 := Tryz.sizeOf82
 v25 := Tryz.zeroValue82
 t39 := Tryz.underlying127
 a39 := Tryz.isAgg127
 z39 := Tryz.sizeOf127
 v39 := Tryz.zeroValue127
 t45 := Tryz.underlying177
 a45 := Tryz.isAgg177
 z45 := Tryz.sizeOf177
 v45 := Tryz.zeroValue177
 t46 := Tryz.underlying178
 a46 := Tryz.isAgg178
 z46 := Tryz.sizeOf178
 v46 := Tryz.zeroValue178
 t50 := Tryz.underlying166
 a50 := Tryz.isAgg166
 z50 := Tryz.sizeOf166
 v50 := Tryz.zeroValue166
 t53 := Tryz.underlying184
 a53 := Tryz.isAgg184
 z53 := Tryz.sizeOf184
 v53 := Tryz.zeroValue184
 t55 := Tryz.underlying160
 a55 := Tryz.isAgg160
 z55 := Tryz.sizeOf160
 v55 := Tryz.zeroValue160
 t66 := Tryz.underlying221
 a66 := Tryz.isAgg221
 z66 := Tryz.sizeOf221
 v66 := Tryz.zeroValue221
 t70 := Tryz.underlying225
 a70 := Tryz.isAgg225
 z70 := Tryz.sizeOf225
 v70 := Tryz.zeroValue225
 t76 := Tryz.underlying241
 a76 := Tryz.isAgg241
 z76 := Tryz.sizeOf241
 v76 := Tryz.zeroValue241
 t77 := Tryz.underlying234
 a77 := Tryz.isAgg234
 z77 := Tryz.sizeOf234
 v77 := Tryz.zeroValue234 }
end Go.Proofs
namespace Go.Te
open Go Go.Sx Go.Proofs Go.RowKit Go.Shelf Go.Sort
set_option maxHeartbeats 4000000
set_option maxRecDepth 100000
theorem Qo (n : Nat) (hn : n < 4611686018427387904) (w : World) : Calls Tryz.prog 88 #[.int .u64 (n : Int)] w fun e w' => e = .returned (.int .i64 (Lib.bitLen n : Nat)) ∧ w' = w := by
 have h := Tryz.bits_Len (n : Int) w (by omega) (by omega)
 rwa [Int.toNat_natCast] at h
theorem OK : rV Tryz.prog 48 2 := by
 intro enc hk h1 cf hO g cb blk off cap d w eg hcmp hH hblk hsz
 have e14 : ∀ args w, (callFunc 87 args).run Tryz.prog w = .ok (.enter 87 args) w := enters_of Tryz.func87 (by kernel_rfl) rfl
 have e15 : ∀ args w, (callFunc 88 args).run Tryz.prog w = .ok (.enter 88 args) w := enters_of Tryz.func88 (by kernel_rfl) rfl
 have hlim : Lib.bitLen d.size < 4611686018427387904 := Nat.lt_of_le_of_lt (Lib.bitLen_le d.size 62 (by omega) (by omega)) (by omega)
 have hp : Calls Tryz.prog 87 _ _ _ := AnyQ.pdqsortCmpFunc_all Tryz.pdqCut 2 Tryz.isAgg49 Tryz.sizeOf49 enc cf g cb hO blk off cap d w eg hcmp ⟨hk, h1, hH, hblk⟩ (d.size + 1) 0 d.size (Lib.bitLen d.size) d w (by omega) rfl (SWK.start hH) (Nat.zero_le _) (Nat.le_refl _) hsz hlim (Or.inl rfl)
 have hl := Qo d.size hsz w
 have wr : IntKind.u64.wrap (d.size : Int) = d.size := by simp [IntKind.wrap, IntKind.bits, IntKind.signed]; omega
 have h := pdq_sorts (ltOf cf) hO d 0 d.size (Lib.bitLen d.size) true true (Nat.zero_le _) (Nat.le_refl _) (Or.inl rfl)
 have mixed : Tryz.prog.follows .mixedOrders = true := by kernel_rfl
 clear hH hcmp hk h1
 go_enter Tryz.func48, Tryz.ntmps48
 go_wp2_with (first | (go_at_fn 88; refine hl.mono ?_; rintro e w' ⟨rfl, rfl⟩) | (go_at_fn 87; refine hp.mono ?_; rintro e w' ⟨rfl, n, os, rfl⟩))
 go_end0
 exact ⟨rfl, _, n, os, h.1, h.2, rfl⟩
theorem N4 : rz Tryz.prog 48 := by
 intro p cap fv w
 have e14 : ∀ args w, (callFunc 87 args).run Tryz.prog w = .ok (.enter 87 args) w := enters_of Tryz.func87 (by kernel_rfl) rfl
 have e15 : ∀ args w, (callFunc 88 args).run Tryz.prog w = .ok (.enter 88 args) w := enters_of Tryz.func88 (by kernel_rfl) rfl
 have hp : ∀ Ro W, Calls Tryz.prog 87 #[.slice p 0 cap, .int .i64 0, .int .i64 0, .int .i64 Ro, fv] W fun e w' => e = .returned (.tuple #[]) ∧ w' = W := fun Ro W => AnyF.pdqsortCmpFunc_none Tryz.pdqCut p cap Ro fv W
 have hl : ∀ W, Calls Tryz.prog 88 #[.int .u64 0] W fun e w' => e = .returned (.int .i64 (Lib.bitLen 0 : Nat)) ∧ w' = W := fun W => Qo 0 (by omega) W
 have mixed : Tryz.prog.follows .mixedOrders = true := by kernel_rfl
 go_enter Tryz.func48, Tryz.ntmps48
 go_wp2_with (first | (go_at_fn 88; refine (hl _).mono ?_; rintro e w' ⟨rfl, rfl⟩) | (go_at_fn 87; refine (hp _ _).mono ?_; rintro e w' ⟨rfl, rfl⟩))
 go_end0
 exact ⟨rfl, rfl⟩
end Go.Te

namespace Go.Te
open Go Go.Sx Go.Proofs Go.Ar Go.RowKit Go.Shelf
set_option maxRecDepth 100000
set_option maxHeartbeats 4000000
abbrev RM : Nat := 99999999
theorem lM {a : zj} (h : zh a = 0) (hn : (zM a).natAbs ≤ 99999999) (hd : zP a ≤ 99999999) : z8 a = true := by
 obtain ⟨_, o2, _, _, o5, _, _⟩ := YJ a
 have hf := (ZT.1 h).1
 have hp := yo hf
 have e : a = YP (zM a) (zP a) := (X1 hf).symm
 obtain ⟨s1, s2, s3, s4, s5⟩ := XS (zM a) hp
 rw [← e] at s4 s5
 have a1 : xC (zM a) ≤ 8 := xR (by decide) (Nat.lt_of_le_of_lt hn (by decide))
 have a2 : Lib.nDigits (zP a) ≤ 8 := (Zx (by decide)).2 (Nat.lt_of_le_of_lt hd (by decide))
 unfold z8
 rw [h, Bool.and_eq_true, Bool.and_eq_true, Zy, Zy]
 have q1 : (zO (zR a)).length ≤ 8 := by rw [← o5, s4]; exact a1
 have q2 : (zB (zR a)).length ≤ 8 := by rw [← o2, s5]; split <;> omega
 exact ⟨⟨rfl, by omega⟩, by omega⟩
theorem KX {a : zj} (h : z8 a = true) : bq 9 (ze a) := by
 obtain ⟨h1, h2, h3⟩ := yj h
 have k : (10 : Nat) ^ 9 = 1000000000 := by decide
 exact ⟨by rw [(ZB h1).1, k]; omega, by rw [(ZB h1).2, k]; omega⟩
def T6 : List AV → Option (List zn × AV)
 | [.str a] => some ([.p (z8 a = true)], .tup 2 (zw [.agg 2 (zw [.i (zM a), .i (zP a : Int)]), .b true]))
 | _ => none
theorem ma : zp Tryz.prog [] 55 T6 := by
 intro xs ps r h hp
 unfold T6 at h
 split at h
 ·rename_i a
  cases h
  have q : z8 a = true := hp _ List.mem_cons_self
  have := Nc a (by have := (yj q).1; exact Yx (k := 9) ⟨this, KX q⟩ (by decide) (by decide))
  rw [q] at this
  exact this
 ·cases h
def Rl : List AV → Option (List zn × AV)
 | [.str a, .str b] => some ([.p (z8 a = true), .p (z8 b = true)], .tup 2 (zw [.i (xr (zM a * (zP b : Int)) (zM b * (zP a : Int))), .i 0]))
 | _ => none
theorem lI (a : List UInt8) (b : List UInt8) (ha : z8 a = true) (hc : z8 b = true) :
 ZV [AV.str a, AV.str b] → z8 a = true ∧ z8 b = true ∧ bF (dK (zM a * (cI (zP b)))) (bF (dK (zM b * (cI (zP a)))) (j2 ∧ (True ∧ kI ∧ xr (zM a * (cI (zP b))) (zM b * (cI (zP a))) = xr (zM a * (cI (zP b))) (zM b * (cI (zP a)))) ∧ kI ∧ iZ = iZ)) := by
 delta bF dK cI kI j2 iZ
 intro hb
 simp only [sS, YN, yK, zk, dS]
 obtain ⟨a1, a2, a3⟩ := yj ha
 obtain ⟨b1, b2, b3⟩ := yj hc
 have m1 := YU (a := zM a) (b := (zP b : Int)) ⟨by omega, by omega⟩ ⟨by omega, by omega⟩
 have m2 := YU (a := zM b) (b := (zP a : Int)) ⟨by omega, by omega⟩ ⟨by omega, by omega⟩
 exact ⟨ha, hc, ⟨by omega, by omega⟩, ⟨by omega, by omega⟩, rfl⟩
theorem Jx (a : List UInt8) (b : List UInt8) (ha : z8 a = true) (hc : z8 b = true) : zt Tryz.prog [] 29 [.str a, .str b] (.tup 2 (zw [.i (xr (zM a * (zP b : Int)) (zM b * (zP a : Int))), .i 0])) :=
 zW (T := (T0.plus 55 T6).plus 56 uM) (an := .auto) mixed (zz.plus (zz.plus zQ ma) Qz) (Eq.mp (by kernel_rfl) (lI a b ha hc))
theorem K6 : zp Tryz.prog [] 29 Rl := by
 intro xs ps r h hp
 unfold Rl at h
 split at h
 ·skip
  rename_i a b
  cases h
  obtain ⟨q0, q1, -⟩ := ZH hp
  exact weaken (ys := [.str a, .str b]) ⟨zS _, zS _, trivial⟩ (Jx a b q0 q1)
 ·cases h
theorem pP {q : Rat} (h1 : q.num.natAbs ≤ 99999999) (h2 : q.den ≤ 99999999) : z8 (zT q) = true := by
 obtain ⟨e1, e2⟩ := wZ q
 have k : (10 : Nat) ^ 9 = 1000000000 := by decide
 exact lM (Qe (k := 9) (by decide) ⟨by rw [k]; omega, by rw [k]; omega⟩ (by decide)) (by rw [e1]; exact h1) (by rw [e2]; exact h2)
def Ox (r : Nat → AV) : Bool := zU.ok (α := Tm) r && (Nat.ble (zU.dec (α := Tm) r).q.num.natAbs RM && Nat.ble (zU.dec (α := Tm) r).q.den RM)
def Tw (r s : Nat → AV) : Int := WA (zU.dec (α := Tm) r).q (zU.dec (α := Tm) s).q
theorem mf (x : Tm) (y : Tm) (h1 : z8 (zT x.q) = true) (h2 : z8 (zT y.q) = true) :
 ZV [AV.agg 2 (zU.enc x), AV.agg 2 (zU.enc y)] → z8 (zT (Tm.q x)) = true ∧ z8 (zT (Tm.q y)) = true ∧ kI ∧ xr (zM (zT (Tm.q x)) * (cI (zP (zT (Tm.q y))))) (zM (zT (Tm.q y)) * (cI (zP (zT (Tm.q x))))) = WA (Tm.q x) (Tm.q y) := by
 delta cI kI
 intro hb
 simp only [sS, YN, yK, zk, dS]
 refine ⟨h1, h2, ?_⟩
 have := nt (yj h1).1 (yj h2).1
 rw [zk, zk] at this
 exact this
theorem jD (x : Tm) (y : Tm) (h1 : z8 (zT x.q) = true) (h2 : z8 (zT y.q) = true) : zt Tryz.prog [] 49 [Yh x, Yh y] (.i (WA x.q y.q)) :=
 zW (T := T0.plus 29 Rl) (an := .auto) mixed (zz.plus zQ K6) (Eq.mp (by kernel_rfl) (mf x y h1 h2))
theorem oM : M1 Tryz.prog 2 49 Ox Tw where
 pos := by decide
 ent := enters_of Tryz.func49 (by kernel_rfl) rfl
 call := fun r s hr hs => by
  unfold Ox at hr hs
  rw [Bool.and_eq_true, Bool.and_eq_true] at hr hs
  have ar : yw Tm (.agg 2 r) = true := hr.1
  have a2 : yw Tm (.agg 2 s) = true := hs.1
  exact weaken (ys := [_, _]) ⟨Zu ar, Zu a2, trivial⟩ (jD _ _ (pP (Nat.le_of_ble_eq_true hr.2.1) (Nat.le_of_ble_eq_true hr.2.2)) (pP (Nat.le_of_ble_eq_true hs.2.1) (Nat.le_of_ble_eq_true hs.2.2)))
 swo := fun els f => by
  have key : ∀ a b : Rat, WA a b < 0 ↔ a < b := fun a b => by
   unfold WA
   split
   ·rename_i h; exact ⟨fun _ => h, fun _ => by decide⟩
   ·rename_i h
    split
    ·exact ⟨fun h => absurd h (by decide), fun e => absurd e h⟩
    ·exact ⟨fun h => absurd h (by decide), fun e => absurd e h⟩
  refine ⟨fun x => ?_, fun x y z h1 h2 => ?_, fun x y z h1 h2 => ?_⟩ <;>
   simp only [ltOf, Tw, decide_eq_true_eq, decide_eq_false_iff_not, key, Rat.not_lt] at *
  ·exact Rat.le_refl
  ·grind
  ·grind
def kt := sV 2 49 Ox Tw
theorem Pa (G : List (Nat × Obj)) : UB Tryz.prog G 48 kt :=
 pC (enters_of Tryz.func48 (by kernel_rfl) rfl) N4 OK oM G
end Go.Te

namespace Go.Te
open Go Go.Sx Go.Proofs Go.Ar Go.RowKit
set_option maxRecDepth 100000
set_option maxHeartbeats 4000000
structure wv (l : List Tm) : Prop where
 len : l.length ≤ 256
 cs : ∀ t ∈ l, bq 60 t.c
 qs : ∀ t ∈ l, t.q ≠ 0 → mj (zT t.q)
 root : inT RM l
 cls : ∀ k, ∀ x ∈ XK (XV (l.take k)), bq 60 x.c
 out : (ZD l).length ≤ 16
def nj (t : TypeId) (l : List Tm) : OB := .arr t 2 l.length fun i j => zU.enc (l.getD i zU.dflt) j
def iw : OB → List Tm
 | .arr _ _ n els => (List.range n).map fun i => zU.dec (els i)
 | _ => []
def UZ : AV → Nat
 | .np k _ => k
 | _ => 0
def Ja : AV → Nat
 | .fn _ _ first _ _ => UZ (first 0)
 | _ => 0
noncomputable def im (G : List (Nat × Obj)) : Tb := Tb.own1 ((((((((Wm G).plus 43 sA).plus 44 (YO fun s => .b (zL s))).plus 83 VD).plus 47 V0).plus 40 UJ).plus 74 uG).plus 84 se |>.plus 29 qC) 48 kt
theorem qS {G : List (Nat × Obj)} (hG : zo G) : zz Tryz.prog (im G) := zz.own1 (zz.plus (zz.plus (zz.plus (zz.plus (zz.plus (zz.plus (zz.plus (zz.plus zQ (qQ hG)) (zp.mono Ss)) (Qd hG)) (Qn hG)) (sX hG)) (qV hG)) (M8 hG)) (mP hG)) (Pa G)
def cellAt (B : OB) (i : Nat) : AV :=
 match B with
 | .box _ _ cs => cs i
 | _ => .junk
def rC (x y : AV) : Tm := ⟨ze (AV.bytes x), ze (AV.bytes y)⟩
def Yr (x t : Tm) : Tm × Tm := if t.q < x.q then (t, x) else (x, t)
theorem yp (a b : zj) : rC (.str a) (.str b) = ⟨ze a, ze b⟩ := rfl
theorem YZ (t : TypeId) (l : List Tm) : iw (OB.arr t 2 l.length fun i j => zU.enc (l.getD i zU.dflt) j) = l := by
 have e : ((List.range l.length).map fun i => zU.dec (α := Tm) (fun j => zU.enc (l.getD i zU.dflt) j)) = l := by
  apply List.ext_getElem
  ·simp
  ·intro i h1 h2
   rw [List.getElem_map, List.getElem_range, List.getD_eq_getElem?_getD, List.getElem?_eq_getElem h2]
   exact y9.dec _
 exact e
def LC : yW := .two .auto (.two .auto (.two (.one (.two .auto (.two .auto (.two .auto (.two .auto (.two .auto
 (.join (Tm × Tm) (fun σ _ => [(0, σ.tm 0), (5, σ.tm 5), (6, σ.tm 6), (10, σ.tm 10)]) (fun σ z => [(UZ (σ.tm 6), .box 79 2 (zU.enc z.1)), (UZ (σ.tm 10), .box 79 2 (zU.enc z.2))]) 0
  (fun σ z => z = Yr (rC (cellAt (σ.bl (UZ (σ.tm 6))) 0) (cellAt (σ.bl (UZ (σ.tm 6))) 1)) (rC (cellAt (σ.bl (UZ (σ.tm 10))) 0) (cellAt (σ.bl (UZ (σ.tm 10))) 1))) .auto .auto))))))) .auto))
def Mk  : yW :=
 .two .auto (.two (.two .auto (.one (.loop Nat (fun σ z => [(0, σ.tm 0), (3, σ.tm 3), (17, σ.tm 17), (18, σ.tm 18), (19, .i (z : Int))]) (fun σ z => []) 0 (fun σ z => z ≤ (iw (σ.bl (Yp (σ.tm 17)))).length ∧ ∀ j, j < z → yH (Zn (α := Tm) (σ.tm 1)).q ((iw (σ.bl (Yp (σ.tm 17)))).getD j zU.dflt).q = false) (fun σ z => (iw (σ.bl (Yp (σ.tm 17)))).length - z) LC))) .auto)
def ZW (l : List Tm) (k : Nat) : List Tm := XK (XV (l.take k))
def Le : yW := .two .auto (.two .auto (.two (.one (.two .auto (.two .auto (.two .auto
 (.join (Rat × Rat) (fun σ z => [(1, σ.tm 1), (6, σ.tm 6), (11, σ.tm 11), (12, σ.tm 12), (13, σ.tm 13), (7, .str (zT z.1)), (8, .str (zT z.2)), (9, .i 0)]) (fun _ _ => []) 0
  (fun σ z => z.1 = nK (rC (cellAt (σ.bl (UZ (σ.tm 6))) 0) (cellAt (σ.bl (UZ (σ.tm 6))) 1)).q ∧ z.2 = nL (rC (cellAt (σ.bl (UZ (σ.tm 6))) 0) (cellAt (σ.bl (UZ (σ.tm 6))) 1)).q) .auto .auto))))) .auto))
def mG (l : List Tm) : yW :=
 .two .auto (.two (.two .auto (.one (.loop Nat (fun σ z => [(1, σ.tm 1), (11, σ.tm 11), (12, σ.tm 12), (13, .i (z : Int))]) (fun σ z => [(Ja (σ.tm 1), .box 75 1 fun _ => .ns σ.nb 0 (ZW l z).length), (σ.nb, nj 79 (ZW l z))]) 1 (fun σ z => z ≤ l.length) (fun σ z => l.length - z) Le))) .auto)
def yB (l : List Tm) (k : Nat) : List Tm := ((ZW l l.length).take k).filter fun t => decide (t.c ≠ 0)
def KR (l : List Tm) : yW :=
 .two .auto (.two .auto (.two (.two .auto (.one (.loop Nat (fun σ z => [(0, σ.tm 0), (16, σ.tm 16), (17, σ.tm 17), (18, .i (z : Int))]) (fun σ z => []) 0 (fun σ z => z ≤ l.length) (fun σ z => l.length - z) .auto))) (.two .auto (.two .auto (.two .auto (.two (.two .auto (.one (.loop Nat (fun σ z => [(45, σ.tm 45), (46, σ.tm 46), (10, .ns σ.nb 0 (yB l z).length), (47, .i (z : Int))]) (fun σ z => [(σ.nb, nj 49 (yB l z))]) 1 (fun σ z => z ≤ (ZW l l.length).length) (fun σ z => (ZW l l.length).length - z) .auto))) .auto))))))
theorem Xr (x : Tm) : Zn (AV.agg 2 fun i => zU.enc x i) = x := WZ x
theorem YD (x : Tm) : yw Tm (AV.agg 2 fun i => zU.enc x i) = true := XE x
theorem V2 (a b : Rat) : WA a b < 0 ↔ a < b := by
 unfold WA
 split
 ·rename_i h; exact ⟨fun _ => h, fun _ => by decide⟩
 ·rename_i h
  split
  ·exact ⟨fun h => absurd h (by decide), fun e => absurd e h⟩
  ·exact ⟨fun h => absurd h (by decide), fun e => absurd e h⟩
theorem SB (l : List Tm) (x : Tm) : XV (l ++ [x]) = XV l ++ if x.c = 0 ∨ x.q = 0 then [] else [TC x] := by
 unfold XV
 rw [List.filter_append, List.map_append]
 congr 1
 by_cases h1 : x.c = 0
 ·rw [if_pos (.inl h1)]; simp [h1]
 ·by_cases h2 : x.q = 0
  ·rw [if_pos (.inr h2)]; simp [h2]
  ·rw [if_neg (by simp [h1, h2])]; simp [h1, h2]
theorem Uj {l : List Tm} {z : Nat} (h : z < l.length) : l.take (z + 1) = l.take z ++ [l.getD z zU.dflt] := oZ (d := zU.dflt) h
theorem P0 {l : List Tm} {z : Nat} (h : z < l.length) (h0 : (l.getD z zU.dflt).c = 0 ∨ (l.getD z zU.dflt).q = 0) : ZW l (z + 1) = ZW l z := by
 unfold ZW
 rw [Uj h, SB, if_pos h0, List.append_nil]
theorem oO {l : List Tm} {z : Nat} (h : z < l.length) (h0 : ¬((l.getD z zU.dflt).c = 0 ∨ (l.getD z zU.dflt).q = 0)) : ZW l (z + 1) = WP (ZW l z) (TC (l.getD z zU.dflt)) := by
 unfold ZW
 rw [Uj h, SB, if_neg h0, Tu]
theorem pU (t : Tm) : TC t = ⟨t.c * nK t.q, nL t.q⟩ := rfl
theorem nA : nK 1 = 1 ∧ nL 1 = 1 := by decide +kernel
theorem iU {q : Rat} (h : mj (zT q)) : 0 < q ∧ mQ q < 10 ^ 17 ∧ bq 17 (nK q) := by
 have hp := h.pos
 have hl := h.len
 rw [zk] at hp hl
 have hn : 0 < q.num := by
  have := Rat.num_nonneg.2 (Rat.le_of_lt hp)
  have h2 : q.num ≠ 0 := fun e => (Rat.ne_of_gt hp) (Rat.num_eq_zero.1 e)
  omega
 have b1 := wo q.num
 have b2 := wo (q.den : Int)
 have e2 : xC (q.den : Int) = Lib.nDigits q.den := by unfold xC; rw [Int.natAbs_natCast]
 rw [e2, Int.natAbs_natCast] at b2
 have b3 : q.num.natAbs * q.den < 10 ^ 17 := by
  refine Nat.lt_of_lt_of_le (Nat.mul_lt_mul'' b1 b2) ?_
  rw [← Nat.pow_add]
  exact Nat.pow_le_pow_right (by omega) hl
 have em : mQ q = q.num.natAbs * q.den := by unfold mQ; rw [show q.num.toNat = q.num.natAbs by omega]
 rw [← em] at b3
 have hd : q.den < 10 ^ 17 := Nat.lt_of_lt_of_le b2 (Nat.pow_le_pow_right (by omega) (by omega))
 exact ⟨hp, b3, tP q.den_pos (by rw [Int.natAbs_natCast]; exact Nat.lt_of_le_of_lt (RF (RP hp)).2.2 b3) hd⟩
theorem wT {R : Nat} {x : Tm} (h : Zf R x) (hR : R < 100000000) : bq 8 x.q ∧ 0 < x.q ∧ x.q.den = 1 ∧ x.q.num.natAbs ≤ R := by
 obtain ⟨r, e, h0, h1⟩ := h
 have k : (10 : Nat) ^ 8 = 100000000 := by decide
 rw [e]
 refine ⟨⟨by rw [Rat.num_natCast, Int.natAbs_natCast, k]; omega, by rw [Rat.den_natCast, k]; omega⟩, ?_, Rat.den_natCast r, by rw [Rat.num_natCast, Int.natAbs_natCast]; exact h1⟩
 exact Rat.lt_of_le_of_ne Rat.natCast_nonneg fun e => by have := Rat.natCast_eq_zero_iff.1 e.symm; omega
theorem RG {x y : Tm} (hx : Zf RM x) (hy : Zf RM y) : ku (zT x.q) (zT y.q) := by
 obtain ⟨b1, p1, d1, n1⟩ := wT hx (by decide)
 obtain ⟨b2, p2, d2, n2⟩ := wT hy (by decide)
 have key : bq 8 (x.q / y.q) := by
  obtain ⟨r, e, h0, h1⟩ := hx
  obtain ⟨s, e2, g0, g1⟩ := hy
  have k : (10 : Nat) ^ 8 = 100000000 := by decide
  have : x.q / y.q = mkRat (r : Int) s := by rw [e, e2, Rat.mkRat_eq_div]; rfl
  rw [this]
  exact tP g0 (by rw [Int.natAbs_natCast, k]; exact Nat.lt_of_le_of_lt h1 (by decide)) (by rw [k]; exact Nat.lt_of_le_of_lt g1 (by decide))
 refine ⟨⟨(ZJ (by decide) (by decide)).2 (b1.mono (by decide)), ?_⟩, ⟨(ZJ (by decide) (by decide)).2 (b2.mono (by decide)), ?_⟩, ?_, ?_, ?_⟩
 ·rw [zk]; exact Rat.le_of_lt p1
 ·rw [zk]; exact Rat.le_of_lt p2
 ·rw [zk]; exact p2
 ·rw [zk, zk]; exact Nat.le_trans (xR (k := 8) (by decide) key.num) (by decide)
 ·rw [zk, zk]; exact Nat.le_trans ((Zx (k := 8) (by decide)).2 key.den) (by decide)
theorem mY {x y : Tm} (hx : Zf RM x) (hy : Zf RM y) (h : yH x.q y.q = true) : yH y.q x.q = true := by
 cases hb : yH y.q x.q with
 | true => rfl
 | false =>
  have := (V3 hx hy (by decide)).2 ((V3 hy hx (by decide)).1 hb).symm
  rw [h] at this
  cases this
theorem kw (x t : Tm) : Xi x t = ⟨(Yr x t).1.c + (Yr x t).2.c * ws (Yr x t).2.q (Yr x t).1.q, (Yr x t).1.q⟩ := by
 unfold Xi Yr
 split <;> rfl
theorem pf {l : List Tm} {z : Nat} (h : z < (ZW l l.length).length) : yB l (z + 1) = yB l z ++ if ((ZW l l.length).getD z zU.dflt).c = 0 then [] else [(ZW l l.length).getD z zU.dflt] := by
 unfold yB
 rw [Uj h, List.filter_append]
 congr 1
 generalize (ZW l l.length).getD z zU.dflt = x
 by_cases h1 : x.c = 0
 ·rw [if_pos h1]; simp [h1]
 ·rw [if_neg h1]; simp [h1]
theorem rq (l : List Tm) : ZW l l.length = XK (XV l) := by unfold ZW; rw [List.take_length]
theorem NZ (l : List Tm) : yB l (ZW l l.length).length = xw l := by
 unfold yB xw
 rw [List.take_length, rq]
theorem yJ {l : List Tm} {i : Nat} (h : i < l.length) : l.getD i zU.dflt ∈ l := by
 rw [List.getD_eq_getElem?_getD, List.getElem?_eq_getElem h]
 exact List.getElem_mem h
theorem Qr (l : List Tm) (x : Tm) (i j : Nat) (hi : i < l.length + 1) : zE (if i < l.length then zU.enc (l.getD i zU.dflt) j else zw [AV.str (zT x.c), AV.str (zT x.q)] j) (zU.enc ((l ++ [x]).getD i zU.dflt) j) := by
 by_cases h : i < l.length
 ·rw [if_pos h, show (l ++ [x]).getD i zU.dflt = l.getD i zU.dflt by simp [List.getD_eq_getElem?_getD, List.getElem?_append_left h]]
  exact zS _
 ·obtain rfl : i = l.length := by omega
  rw [if_neg h, show (l ++ [x]).getD l.length zU.dflt = x by simp [List.getD_eq_getElem?_getD]]
  exact zS _
theorem IO (l : List Tm) (k : Nat) (x : Tm) (hk : k < l.length) (i j : Nat) (hj : j < 2) : zE (if i = k ∧ j < 2 then (if j < 2 then zU.enc x j else Z0 (Value.agg #[Value.string ⟨#[]⟩, Value.string ⟨#[]⟩]) j) else zU.enc (l.getD i zU.dflt) j) (zU.enc ((l.set k x).getD i zU.dflt) j) := by
 by_cases e : i = k
 ·subst e
  rw [if_pos ⟨rfl, hj⟩, if_pos hj, show (l.set i x).getD i zU.dflt = x by simp [List.getD_eq_getElem?_getD, hk]]
  exact zS _
 ·rw [if_neg fun h => e h.1, show (l.set k x).getD i zU.dflt = l.getD i zU.dflt by simp [List.getD_eq_getElem?_getD, List.getElem?_set_ne (Ne.symm e)]]
  exact zS _
noncomputable def HR (G : List (Nat × Obj)) (l : List Tm) : Tb := ((im G).body Tryz.prog [(46, Mk)]).body Tryz.prog [(45, mG l)]
theorem oT {G : List (Nat × Obj)} (hG : zo G) (l : List Tm) : zz Tryz.prog (HR G l) := zz.body mixed (zz.body mixed (qS hG) _) _
theorem mK {l : List Tm} (h : wv l) (z : Nat) : (ZW l z).length ≤ l.length ∧ ∀ x ∈ ZW l z, Zf RM x ∧ bq 60 x.c := by
 obtain ⟨_, g2, _, g4, _⟩ := W4 (R := RM) (by decide) (l := l.take z) fun t ht => h.root t (List.mem_of_mem_take ht)
 exact ⟨Nat.le_trans g4 (by rw [List.length_take]; omega), fun x hx => ⟨g2 x hx, h.cls z x hx⟩⟩
theorem MV {l : List Tm} (h : wv l) {p : List Nat} (hp : p.Perm (List.range (xw l).length)) (hs : p.Pairwise fun i j => ¬ Tw (fun k => zU.enc ((xw l).getD j zU.dflt) k) (fun k => zU.enc ((xw l).getD i zU.dflt) k) < 0) :
  ZD l = p.map fun i => (xw l).getD i zU.dflt := by
 obtain ⟨g1, g2, _, _, _⟩ := W4 (R := RM) (by decide) h.root
 have e : ((List.range (xw l).length).map fun i => (xw l).getD i zU.dflt) = xw l := by
  apply List.ext_getElem
  ·simp
  ·intro i h1 h2
   rw [List.getElem_map, List.getElem_range, List.getD_eq_getElem?_getD, List.getElem?_eq_getElem h2]
   rfl
 have hpp := hp.map fun i => (xw l).getD i zU.dflt
 rw [e] at hpp
 refine (qk (R := RM) (l := xw l) (fun x hx => g2 x (List.mem_filter.1 hx).1) (g1.filter _) hpp ?_).symm
 rw [List.pairwise_map]
 refine hs.imp fun {i j} hij => ?_
 have e1 : ∀ x : Tm, zU.dec (α := Tm) (fun k => zU.enc x k) = x := fun x => y9.dec x
 unfold Tw at hij
 rw [e1, e1, V2] at hij
 exact Rat.not_lt.1 hij
def SH : List AV → Option (List zn × AV)
 | [x_l] => some ([.b (zD Tm x_l), .p (wv (ZO (α := Tm) x_l))], .tup 2 (zw [ZE (ZD (ZO (α := Tm) x_l)), .i 0]))
 | _ => none
theorem j6 (G : List (Nat × Obj)) (l : List Tm) (h : wv l) :
 let q2 := (True ∧ Value.slice (XD Addr) 0 0 = Value.slice (XD Addr) 0 0 ∧ lN (ZD l) = 0); let q1 := (j2 ∧ q2 ∧ kI ∧ (4 : Int) = iZ); let q3 := (AV.xl false 2 (lN l) fun i j => zU.enc (gD l i zU.dflt) j); let q4 := (kI ∧ (lZ l) = (lZ l)); let q7 := (AV.fn (Fn.func 46) 1 (fun i => Option.getD [AV.np (nat_lit 0) 0][i]? AV.junk) 0 fun (i : Nat) => AV.junk); let q12 := (ByteArray.data (ByteArray.mk #[(48 : UInt8)])); let q15 := (ByteArray.data (ByteArray.mk #[(49 :
 UInt8)])); ZV [AV.xl false 2 (lN l) fun i j => zU.enc (gD l i zU.dflt) j] → zZ (zg (256 : Int) (lZ l)) q1 ((∃ (z : Nat), (z ≤ lN l ∧ zE q3 q3 ∧ zE q3 q3 ∧ q4 ∧ kI ∧ iZ = (cI z)) ∧ True) ∧ ∀ (z : Nat), let q5 := (gD l (Int.toNat (cI z)) zU.dflt); let q6 := (zT (Tm.q q5)); z ≤ lN l → zZ (zg (cI z) (lZ l)) (bF (DB.db (iZ ≤ (cI z) ∧ (cI z) < (lZ l))) (YQ 300 (zT (Tm.c q5)) ∧ YQ 300 q6 ∧ zZ (zL q6) (2 = lN [AV.junk,
 AV.junk] ∧ q2 ∧ kI ∧ (2 : Int) = iZ) (bF (dK ((cI z) + iO)) (∃ (z' : Nat), ((z' ≤ lN l ∧ lN l - z' < lN l - z) ∧ zE q3 q3 ∧ zE q3 q3 ∧ q4 ∧ kI ∧ (cI z) + iO = (cI z')) ∧ True)))) ((∃ (z : Nat), (z ≤ lN l ∧ zE q7 q7 ∧ zE q3 q3 ∧ q4 ∧ kI ∧ iZ = (cI z)) ∧ ((75 : TypeId) = 75 ∧ 1 = 1 ∧ some (XD Nat) = some (XD Nat) ∧ 0 = 0 ∧ lN (ZW l z) = 0) ∧ lN (ZW l z) = 0) ∧ ∀ (z : Nat), let q11 := (gD l (Int.toNat (↑z :
 Int)) zU.dflt); let q10 := (Tm.c q11); let q9 := (zT q10 == Array.toList q12); let q8 := (!zr false q9 || zr false q9); let q13 := (Tm.q q11); let q14 := (dK ((cI z) + iO)); let q16 := (zT q13); let q18 := (zT q10); let q17 := (Tm.q (rC (AV.str q18) (AV.str q16))); let q19 := (kI ∧ (cI z) = (cI z)); let q20 := (ze q16); let q21 := ((75 = 75 ∧ 1 = 1 ∧ nat_lit 1 = 1 ∧ 0 = 0 ∧ lN (ZW l z) = lN (ZW l z)) ∧ 79 = 79 ∧ 2 = 2 ∧ lN (ZW l z) = lN (ZW l z) ∧ ∀ (i j : Nat), let q22 := (zU.enc
 (gD (ZW l z) i zU.dflt) j); i < lN (ZW l z) → j < 2 → zE q22 q22); let q23 := (iw (OB.arr (79 : TypeId) 2 (lN (ZW l z)) fun i j => zU.enc (gD (ZW l z) i zU.dflt) j)); let q27 := (nat_lit 1 = 1 ∧ 0 = 0 ∧ lN (ZW l z) = lN (ZW l z)); let q28 := (kI ∧ (lZ (ZW l z)) = (lZ (ZW l z))); let q29 := (q21 ∧ 49 = 49 ∧ 2 = 2 ∧ zT q10 = zT q10 ∧ zT q13 = zT q13); let q45 := (DB.db ((lN (ZW l z) + 1) * 32 ≤ 140737488355328)); z ≤ lN l → zZ (zg (cI z)
 (lZ l)) (bF (DB.db (iZ ≤ (cI z) ∧ (cI z) < (lZ l))) (bF q8 (bF q8 (bF (!!zT q10 == Array.toList q12 || zr false q9) (zZ (bif zT q10 == Array.toList q12 then true else zT q13 == Array.toList q12) (bF q14 (∃ (z' : Nat), ((z' ≤ lN l ∧ lN l - z' < lN l - z) ∧ zE q7 q7 ∧ zE q3 q3 ∧ q4 ∧ kI ∧ (cI z) + iO = (cI z')) ∧ (75 = 75 ∧ 1 = 1 ∧ nat_lit 1 = 1 ∧ 0 = 0 ∧ lN (ZW l z') = lN (ZW l z)) ∧ 79 = 79 ∧ 2 = 2 ∧ lN (ZW l z') =
 lN (ZW l z) ∧ ∀ (i j : Nat), i < lN (ZW l z) → j < 2 → zE (zU.enc (gD (ZW l z) i zU.dflt) j) (zU.enc (gD (ZW l z') i zU.dflt) j))) (zZ (!zT q13 == Array.toList q15) (mj q16 ∧ ∃ (z_1 : Rat × Rat), ((Prod.fst z_1 = nK q17 ∧ Prod.snd z_1 = nL q17) ∧ zE q7 q7 ∧ (nat_lit 2 = 2 ∧ 0 = 0) ∧ zE q3 q3 ∧ q4 ∧ q19 ∧ zT (nK q20) = zT (Prod.fst z_1) ∧ zT (nL q20) = zT (Prod.snd z_1) ∧ kI ∧ iZ = iZ) ∧ q21 ∧ 49 = 49 ∧ 2 = 2 ∧ zT q10 = zT q10 ∧ zT q13 = zT q13) (∃ (z_1 : Rat × Rat), ((Prod.fst z_1 = nK q17
 ∧ Prod.snd z_1 = nL q17) ∧ zE q7 q7 ∧ (nat_lit 2 = 2 ∧ 0 = 0) ∧ zE q3 q3 ∧ q4 ∧ q19 ∧ Array.toList q15 = zT (Prod.fst z_1) ∧ zT q13 = zT (Prod.snd z_1) ∧ kI ∧ iZ = iZ) ∧ q21 ∧ 49 = 49 ∧ 2 = 2 ∧ zT q10 = zT q10 ∧ zT q13 = zT q13) ∧ ∀ (z_1 : Rat × Rat), let q26 := (ze q18 * ze (zT (Prod.fst z_1))); let q25 := (zT q26); let q24 := (Tm.q (Zn (AV.agg 2 (zw [AV.str q25, AV.str (zT (Prod.snd z_1))])))); let q37 := (rC (AV.str q25) (AV.str (zT (Prod.snd z_1)))); let q39 := (q29 ∧ 49 = 49 ∧ 2 = 2 ∧ zT q26 = zT q26 ∧ zT (Prod.snd z_1) =
 zT (Prod.snd z_1)); let q46 := (bF q14 (∃ (z' : Nat), ((z' ≤ lN l ∧ lN l - z' < lN l - z) ∧ zE q7 q7 ∧ zE q3 q3 ∧ q4 ∧ kI ∧ (cI z) + iO = (cI z')) ∧ (75 = 75 ∧ 1 = 1 ∧ nat_lit 1 = 1 ∧ 0 = 0 ∧ lN (ZW l z') = lN (ZW l z) + 1) ∧ (79 : TypeId) = 79 ∧ 2 = 2 ∧ lN (ZW l z') = lN (ZW l z) + 1 ∧ ∀ (i j : Nat), i < lN (ZW l z) + 1 → j < 2 → zE (if i < lN (ZW l z) then zU.enc (gD (ZW l z) i zU.dflt) j else Sx.rowAt [zw [AV.str q25, AV.str (zT (Prod.snd
 z_1))]] (i - lN (ZW l z)) j) (zU.enc (gD (ZW l z') i zU.dflt) j))); Prod.fst z_1 = nK q17 ∧ Prod.snd z_1 = nL q17 → (zr false (iZ != iZ) = true → YQ 300 (zT (Prod.snd z_1))) ∧ zZ (bif iZ != iZ then true else zg (90 : Int) (wD (ze (zT (Prod.snd z_1))))) q1 (oN 140 q18 (zT (Prod.fst z_1)) ∧ (∃ (z_2 : Nat), ((z_2 ≤ lN q23 ∧ ∀ (j : Nat), j < z_2 → yH q24 (Tm.q (gD q23 j zU.dflt)) = false) ∧ (nat_lit 0 = 0 ∧ 0 = 0) ∧ (nat_lit 3 = 3 ∧ 0 = 0) ∧ q27 ∧ q28 ∧ kI ∧ iZ = (cI z_2)) ∧ q29 ∧
 49 = 49 ∧ 2 = 2 ∧ zT q26 = zT q26 ∧ zT (Prod.snd z_1) = zT (Prod.snd z_1)) ∧ ∀ (z_2 : Nat), let q30 := (DB.db (iZ ≤ (cI z_2) ∧ (cI z_2) < (lZ (ZW l z)))); let q33 := (gD (ZW l z) (0 + Int.toNat (cI z_2)) zU.dflt); let q32 := (Tm.q q33); let q31 := (zT q32); let q34 := (ze q31); let q36 := (Tm.c q33); let q35 := (rC (AV.str (zT q36)) (AV.str q31)); let q38 := (kI ∧ (cI z_2) = (cI z_2)); (z_2 ≤ lN q23 ∧ ∀ (j : Nat), j < z_2 → yH q24 (Tm.q (gD q23 j zU.dflt)) = false) → zZ (zg (↑z_2 :
 Int) (lZ (ZW l z))) (bF q30 (ku (zT (Prod.snd z_1)) q31 ∧ zZ (!yH (ze (zT (Prod.snd z_1))) q34) (bF (dK ((cI z_2) + iO)) (∃ (z' : Nat), (((z' ≤ lN q23 ∧ ∀ (j : Nat), j < z' → yH q24 (Tm.q (gD q23 j zU.dflt)) = false) ∧ lN q23 - z' < lN q23 - z_2) ∧ (nat_lit 0 = 0 ∧ 0 = 0) ∧ (nat_lit 3 = 3 ∧ 0 = 0) ∧ q27 ∧ q28 ∧ kI ∧ (cI z_2) + iO = (cI z')) ∧ q29 ∧ 49 = 49 ∧ 2 = 2 ∧ zT q26 = zT q26 ∧ zT (Prod.snd z_1) = zT (Prod.snd z_1))) ((oN 140 (zT (Prod.snd
 z_1)) q31 ∧ zZ (zg (WA (ze (zT (Prod.snd z_1))) q34) iZ) (∃ (z_3 : Tm × Tm), (z_3 = Yr q35 q37 ∧ (nat_lit 0 = 0 ∧ 0 = 0) ∧ q38 ∧ (nat_lit 4 = 4 ∧ 0 = 0) ∧ nat_lit 5 = 5 ∧ 0 = 0) ∧ (q39 ∧ (79 : TypeId) = 79 ∧ 2 = 2 ∧ zT q26 = zT (Tm.c (Prod.fst z_3)) ∧ zT (Prod.snd z_1) = zT (Tm.q (Prod.fst z_3))) ∧ (79 : TypeId) = 79 ∧ 2 = 2 ∧ zT q36 = zT (Tm.c (Prod.snd z_3)) ∧ zT q32 = zT (Tm.q (Prod.snd z_3))) (∃ (z_3 : Tm × Tm), (z_3 = Yr q35 q37 ∧ (nat_lit 0 = 0 ∧ 0 = 0) ∧ q38 ∧ (nat_lit 4 = 4 ∧ 0 = 0) ∧ nat_lit 5 = 5 ∧ 0 = 0) ∧ (q39 ∧ (79 : TypeId) = 79 ∧ 2 = 2 ∧
 zT q36 = zT (Tm.c (Prod.fst z_3)) ∧ zT q32 = zT (Tm.q (Prod.fst z_3))) ∧ (79 : TypeId) = 79 ∧ 2 = 2 ∧ zT q26 = zT (Tm.c (Prod.snd z_3)) ∧ zT (Prod.snd z_1) = zT (Tm.q (Prod.snd z_3)))) ∧ ∀ (z_3 : Tm × Tm), let q40 := (AV.agg 2 fun (i : Nat) => zU.enc (Prod.fst z_3) (0 + i)); let q41 := (AV.agg 2 fun (i : Nat) => zU.enc (Prod.snd z_3) (0 + i)); z_3 = Yr q35 q37 → bF (yw Tm q40) (bF (yw Tm q41) (iK (Zn q40) (Zn q41) ∧ bF q30 (bF q14 (∃ (z' : Nat), ((z' ≤ lN l ∧ lN l - z' < lN l - z) ∧ zE q7 q7 ∧ zE q3 q3 ∧ q4 ∧ IntKind.i64
 = .i64 ∧ (cI z) + iO = (cI z')) ∧ (75 = 75 ∧ 1 = 1 ∧ nat_lit 1 = 1 ∧ 0 = 0 ∧ lN (ZW l z') = lN (ZW l z)) ∧ 79 = 79 ∧ 2 = 2 ∧ lN (ZW l z') = lN (ZW l z) ∧ ∀ (i j : Nat), let q42 := (Zn (AV.agg 2 fun (i : Nat) => zU.enc (Prod.fst z_3) (0 + i))); let q43 := (Zn (AV.agg 2 fun (i : Nat) => zU.enc (Prod.snd z_3) (0 + i))); let q44 := (Tm.q q42); i < lN (ZW l z) → j < 2 → zE (if i = 0 + Int.toNat (cI z_2) ∧ 0 ≤ j ∧ j < 2 then if 0 ≤ 0 + (j - 0) ∧ 0 + (j - 0) < 2 then zU.enc (Tm.mk (Tm.c q42 + Tm.c q43 * ws (Tm.q q43)
 q44) q44) (0 + (j - 0) - 0) else Z0 (Value.agg #[Value.string (ByteArray.mk #[]), Value.string (ByteArray.mk #[])]) (0 + (j - 0)) else zU.enc (gD (ZW l z) i zU.dflt) j) (zU.enc (gD (ZW l z') i zU.dflt) j)))))))) (bF q45 q46 ∧ bF q45 q46)))))))) ((∃ (z_1 : Nat), (z_1 ≤ lN (ZW l (lN l)) ∧ q27 ∧ q28 ∧ (some (XD Nat) = some (XD Nat) ∧ 0 = 0 ∧ lN (yB l z_1) = 0) ∧ kI ∧ iZ = (cI z_1)) ∧ q21 ∧ lN (yB l z_1) = 0) ∧ ∀ (z_1 : Nat), let
 q48 := (gD (ZW l z) (0 + Int.toNat (cI z_1)) zU.dflt); let q47 := (Tm.c q48); let q49 := (dK ((cI z_1) + iO)); let q50 := (zT q47); let q53 := (wD (ze q50)); let q52 := (zg (60 : Int) q53); let q51 := (!zr false q52 || zr false q52); let q54 := (zT (Tm.q q48)); z_1 ≤ lN (ZW l (lN l)) → zZ (zg (cI z_1) (lZ (ZW l z))) (bF (DB.db (iZ ≤ (cI z_1) ∧ (cI z_1) < (lZ (ZW l z)))) (zZ (zT q47 == Array.toList q12) (bF q49 (∃ (z' : Nat), ((z' ≤ List.length
 (ZW l (lN l)) ∧ lN (ZW l (lN l)) - z' < lN (ZW l (lN l)) - z_1) ∧ q27 ∧ q28 ∧ (nat_lit 2 = 2 ∧ 0 = 0 ∧ lN (yB l z') = lN (yB l z_1)) ∧ kI ∧ (cI z_1) + iO = (cI z')) ∧ q21 ∧ 49 = 49 ∧ 2 = 2 ∧ lN (yB l z') = lN (yB l z_1) ∧ ∀ (i j : Nat), i < lN (yB l z_1) → j < 2 → zE (zU.enc (gD (yB l z_1) i zU.dflt) j) (zU.enc (gD (yB l z') i zU.dflt) j))) (YQ 300 q50 ∧ bF q51 (bF q51 ((zr false q52 = true → YQ 300 q54) ∧ zZ q51
 (bF (!!zg (60 : Int) q53 || zr false q52) (zZ (bif zg (60 : Int) q53 then true else zg (40 : Int) (wD (ze q54))) q1 (bF (DB.db ((lN (yB l z_1) + 1) * 32 ≤ 140737488355328)) (bF q49 (∃ (z' : Nat), ((z' ≤ lN (ZW l (lN l)) ∧ lN (ZW l (lN l)) - z' < lN (ZW l (lN l)) - z_1) ∧ q27 ∧ q28 ∧ (nat_lit 2 = 2 ∧ 0 = 0 ∧ lN (yB l z') = lN (yB l z_1) + 1) ∧ kI ∧ (cI z_1) + iO = (cI z')) ∧ q21 ∧ (49 : TypeId) = 49 ∧ 2 = 2 ∧ lN (yB l z') = List.length
 (yB l z_1) + 1 ∧ ∀ (i j : Nat), i < lN (yB l z_1) + 1 → j < 2 → zE (if i < lN (yB l z_1) then zU.enc (gD (yB l z_1) i zU.dflt) j else Sx.rowAt [zw [AV.str q50, AV.str q54]] (i - lN (yB l z_1)) j) (zU.enc (gD (yB l z') i zU.dflt) j)))))) False))))) (zZ (zg (16 : Int) (lZ (yB l z_1))) q1 (bF (Nat.beq (lN (yB l z_1)) (lN (yB l z_1)) && Nat.beq 2 2 && Nat.blt (nat_lit 2) (nat_lit 3) && Nat.beq 49 49) ((lN (yB l z_1) < 4611686018427387904 ∧ ∀
 (i : Nat), i < lN (yB l z_1) → (Ox fun (j : Nat) => zU.enc (gD (yB l z_1) i zU.dflt) j) = true) ∧ ∀ (p : List Nat), List.Perm p (List.range (lN (yB l z_1))) ∧ List.Pairwise (fun i j => ¬(Tw (fun (j_1 : Nat) => zU.enc (gD (yB l z_1) j zU.dflt) j_1) fun (j : Nat) => zU.enc (gD (yB l z_1) i zU.dflt) j) < iZ) p → j2 ∧ (True ∧ zE (AV.xl false 2 (lN (yB l z_1)) fun i j => zU.enc (gD (yB l z_1) (gD p (0 + i) 0) zU.dflt) j) (AV.xl false 2 (lN (ZD l)) fun i j =>
 zU.enc (gD (ZD l) i zU.dflt) j)) ∧ kI ∧ iZ = iZ)))))) := by
 delta bF dK cI kI j2 lZ lN gD iZ iO
 dsimp only
 intro hb
 simp only [↓yZ, ↓Zj, row_one]
 simp only [sS, YN, yK, zk, yp, YZ, Xr, YD, dS]
 have hlen := h.len
 have mem : ∀ z, z < l.length → l.getD z zU.dflt ∈ l := fun z hz => yJ hz
 have okq : ∀ q : Rat, (q ≠ 0 → mj (zT q)) → YQ 300 (zT q) := fun q hq => by
  by_cases h0 : q = 0
  ·rw [h0]; exact (ZJ (by decide) (by decide)).2 ⟨by decide +kernel, by decide +kernel⟩
  ·exact (hq h0).ok.mono (by decide)
 refine ⟨fun h => by omega, fun _ => ⟨⟨0, Nat.zero_le _, rfl⟩, fun z hz => ⟨fun hlt => ?_, fun hge => ?_⟩⟩⟩
 ·have hm := mem z (by omega)
  have o1 : YQ 300 (zT (l.getD z zU.dflt).c) := (ZJ (by decide) (by decide)).2 ((h.cs _ hm).mono (by decide))
  have o2 := okq _ (h.qs _ hm)
  have hm0 := Tk o2.1 (by rw [zk]; exact (h.root _ hm).1)
  rw [hm0]
  exact ⟨⟨by omega, by omega⟩, o1, o2, zX.2 ⟨fun c => (by cases c), fun _ => ⟨by simp only [yn]; omega, z + 1, ⟨by omega, by omega⟩, by omega⟩⟩⟩
 refine ⟨⟨0, ⟨Nat.zero_le _, rfl⟩, rfl, rfl⟩, fun z hz => ⟨fun hlt => ?_, fun hge => ?_⟩⟩
 ·have hz' : z < l.length := by omega
  have hm := mem z hz'
  obtain ⟨k1, k2⟩ := mK h z
  have s0 := P0 hz'
  have s1 := oO hz'
  have hc := h.cs _ hm
  have hq := h.qs _ hm
  have hv := QP h.root
  have hin : ¬((l.getD z zU.dflt).c = 0 ∨ (l.getD z zU.dflt).q = 0) → Zf RM (TC (l.getD z zU.dflt)) := fun hn => by
   refine hv.1 _ (List.mem_map.2 ⟨_, List.mem_filter.2 ⟨hm, ?_⟩, rfl⟩)
   simp only [not_or] at hn
   simp only [decide_eq_true_eq, Bool.and_eq_true]
   exact hn
  rw [Xf, Xf, RZ]
  generalize l.getD z zU.dflt = t at *
  refine ⟨⟨by omega, by omega⟩, zX.2 ⟨fun c => ?_, fun c => ?_⟩⟩
  ·have c : t.c = 0 ∨ t.q = 0 := by simpa using c
   have e := s0 c
   exact ⟨by simp only [yn]; omega, z + 1, ⟨⟨by omega, by omega⟩, by omega⟩, by rw [e], by rw [e], fun i j _ _ => by rw [e]; exact zS _⟩
  have c : ¬(t.c = 0 ∨ t.q = 0) := by simpa using c
  have c2 := not_or.1 c
  have e := s1 c
  rw [pU] at e
  have hn := hin c
  rw [pU] at hn
  obtain ⟨r1, r2, r3⟩ := iU (hq c2.2)
  refine ⟨zX.2 ⟨fun _ => ⟨hq c2.2, (nK t.q, nL t.q), ⟨⟨rfl, rfl⟩, rfl, rfl⟩, fun _ _ _ _ => trivial⟩, fun c3 => ⟨(nK t.q, nL t.q), ⟨⟨rfl, rfl⟩, ?_⟩, fun _ _ _ _ => trivial⟩⟩, fun y ⟨y1, y2⟩ => ?_⟩
  ·have c3 : t.q = 1 := by simpa using c3
   rw [c3, nA.1, nA.2]
   decide +kernel
  obtain ⟨ya, yb⟩ := y
  simp only at y1 y2 ⊢
  rw [← y1, ← y2] at e hn
  rw [← y1] at r3
  obtain ⟨b1, b2, b3, b4⟩ := wT hn (by decide)
  have b1 : bq 8 yb := b1
  have l90 : zg 90 (wD yb) = false := Bool.eq_false_iff.2 fun e => by
   have := (zq _ _).1 e
   have := W2 (by decide) b1
   omega
  rw [l90]
  have okb : YQ 300 (zT yb) := (ZJ (by decide) (by decide)).2 (b1.mono (by decide))
  have okc : oN 140 (zT t.c) (zT ya) := ⟨(ZJ (by decide) (by decide)).2 (hc.mono (by decide)), (ZJ (by decide) (by decide)).2 (r3.mono (by decide))⟩
  have hcb : bq 77 (t.c * ya) := Ra hc r3
  refine ⟨fun _ => okb, zX.2 ⟨fun c => (by cases c), fun _ => ⟨okc, ⟨0, ⟨⟨Nat.zero_le _, fun j hj => absurd hj (Nat.not_lt_zero _)⟩, rfl⟩, fun _ _ _ _ => trivial⟩, fun k ⟨q1, q2⟩ => ⟨fun kl => ?_, fun kg => ?_⟩⟩⟩⟩
  ·have hk : k < (ZW l z).length := by omega
   obtain ⟨x1, x2⟩ := k2 _ (yJ hk)
   have sa := Qj (t := ⟨t.c * ya, yb⟩) (d := zU.dflt) (cl := ZW l z) (i := k) hk q2
   have ra := RG hn x1
   have rs := RG x1 hn
   have sy := mY hn x1
   generalize hx0 : (ZW l z).getD k zU.dflt = x at *
   obtain ⟨xc, xq⟩ := x
   obtain ⟨f1, f2, f3, f4⟩ := wT x1 (by decide)
   have f1 : bq 8 xq := f1
   have okx : YQ 140 (zT xq) := (ZJ (by decide) (by decide)).2 (f1.mono (by decide))
   have okb2 : YQ 140 (zT yb) := (ZJ (by decide) (by decide)).2 (b1.mono (by decide))
   refine ⟨⟨by omega, by omega⟩, ra, zX.2 ⟨fun c => ?_, fun c => ⟨⟨⟨okb2, okx⟩, fun hlt2 => ?_, fun hge2 => ?_⟩, fun w hw => ?_⟩⟩⟩
   ·have c : yH yb xq = false := by simpa using c
    refine ⟨by simp only [yn]; omega, k + 1, ⟨⟨⟨by omega, fun j hj => ?_⟩, by omega⟩, by omega⟩, fun _ _ _ _ => trivial⟩
    by_cases ej : j = k
    ·subst ej
     rw [hx0]; exact c
    ·exact q2 j (by omega)
   ·have hl := (V2 _ _).1 hlt2
    refine ⟨_, rfl, ?_⟩
    unfold Yr
    rw [if_pos (show (⟨t.c * ya, yb⟩ : Tm).q < (⟨xc, xq⟩ : Tm).q from hl)]
    exact ⟨⟨fun _ _ _ _ => trivial, rfl, rfl⟩, rfl, rfl⟩
   ·have hge2 : 0 ≤ WA yb xq := hge2
    have hl : ¬ yb < xq := fun e => by have := (V2 _ _).2 e; omega
    refine ⟨_, rfl, ?_⟩
    unfold Yr
    rw [if_neg (show ¬ (⟨t.c * ya, yb⟩ : Tm).q < (⟨xc, xq⟩ : Tm).q from hl)]
    exact ⟨⟨fun _ _ _ _ => trivial, rfl, rfl⟩, rfl, rfl⟩
   ·have c : yH yb xq = true := by simpa using c
    have sa := sa c
    have lh := kw ⟨xc, xq⟩ ⟨t.c * ya, yb⟩
    rw [← hw] at lh
    have hpl : iK w.1 w.2 := by
     rw [hw]
     unfold Yr
     split
     ·exact ⟨rs, sy c, hcb.mono (by decide), x2.mono (by decide)⟩
     ·exact ⟨ra, c, x2.mono (by decide), hcb.mono (by decide)⟩
    rw [← lh]
    refine ⟨hpl, ⟨by omega, by omega⟩, by simp only [yn]; omega, z + 1, ⟨⟨by omega, by omega⟩, by omega⟩, ?_, ?_, fun i j hi hj => ?_⟩
    ·rw [e, sa, List.length_set]
    ·rw [e, sa, List.length_set]
    ·rw [e, sa]
     exact IO _ _ _ hk i j hj
  ·have sn := tG (t := ⟨t.c * ya, yb⟩) (d := zU.dflt) (cl := ZW l z) fun j hj => q2 j (by omega)
   have fin : ((ZW l z).length + 1) * 32 ≤ 140737488355328 ∧ yn IntKind.i64 ((z : Int) + 1) ∧ ∃ z', ((z' ≤ l.length ∧ l.length - z' < l.length - z) ∧ (z : Int) + 1 = (z' : Int)) ∧ (ZW l z').length = (ZW l z).length + 1 ∧ (ZW l z').length = (ZW l z).length + 1 ∧
     ∀ (i j : Nat), i < (ZW l z).length + 1 → j < 2 → zE (if i < (ZW l z).length then zU.enc ((ZW l z).getD i zU.dflt) j else zw [AV.str (zT (t.c * ya)), AV.str (zT yb)] j) (zU.enc ((ZW l z').getD i zU.dflt) j) := by
    refine ⟨by omega, by simp only [yn]; omega, z + 1, ⟨⟨by omega, by omega⟩, by omega⟩, by rw [e, sn]; simp, by rw [e, sn]; simp, fun i j hi hj => ?_⟩
    rw [e, sn]
    exact Qr _ ⟨t.c * ya, yb⟩ i j hi
   exact ⟨fin, fin⟩
 ·have hz' : z = l.length := by omega
  subst hz'
  obtain ⟨k1, k2⟩ := mK h l.length
  refine ⟨⟨0, ⟨Nat.zero_le _, rfl, rfl⟩, fun _ _ _ _ => trivial, rfl⟩, fun y hy => ⟨fun yl => ?_, fun yg => ?_⟩⟩
  ·have hyl : y < (ZW l l.length).length := by omega
   have os := pf hyl
   obtain ⟨x1, x2⟩ := k2 _ (yJ hyl)
   have ho : (yB l y).length ≤ y := by
    unfold yB
    exact Nat.le_trans (List.length_filter_le _ _) (by rw [List.length_take]; omega)
   rw [Xf]
   generalize (ZW l l.length).getD y zU.dflt = x at *
   obtain ⟨f1, f2, f3, f4⟩ := wT x1 (by decide)
   refine ⟨⟨by omega, by omega⟩, zX.2 ⟨fun c => ?_, fun c => ?_⟩⟩
   ·have c : x.c = 0 := by simpa using c
    rw [if_pos c, List.append_nil] at os
    exact ⟨by simp only [yn]; omega, y + 1, ⟨⟨by omega, by omega⟩, by rw [os], by omega⟩, fun _ _ _ _ => trivial, by rw [os], fun i j _ _ => by rw [os]; exact zS _⟩
   ·have c : x.c ≠ 0 := by simpa using c
    rw [if_neg c] at os
    have l60 : zg 60 (wD x.c) = false := Bool.eq_false_iff.2 fun e => by
     have := (zq _ _).1 e
     have := W2 (by decide) x2
     omega
    have l40 : zg 40 (wD x.q) = false := Bool.eq_false_iff.2 fun e => by
     have := (zq _ _).1 e
     have := W2 (by decide) f1
     omega
    rw [l60, l40]
    refine ⟨(ZJ (by decide) (by decide)).2 (x2.mono (by decide)), fun _ => (ZJ (by decide) (by decide)).2 (f1.mono (by decide)), zX.2 ⟨fun c => (by cases c), fun _ => ⟨by omega, by simp only [yn]; omega, y + 1, ⟨⟨by omega, by omega⟩, by rw [os]; simp, by omega⟩, fun _ _ _ _ => trivial, by rw [os]; simp, fun i j hi _ => ?_⟩⟩⟩
    rw [os]
    exact Qr _ x i j hi
  ·have hye : y = (ZW l l.length).length := by omega
   subst hye
   rw [NZ]
   have hmk : (ZD l).length = (xw l).length := (x8 (xw l)).length_eq
   have h16 := h.out
   refine ⟨fun h => by omega, fun _ => zX.2 ⟨fun _ => ⟨⟨by omega, fun i hi => ?_⟩, fun p ⟨p1, p2⟩ => ?_⟩, fun c => ?_⟩⟩
   ·have hm : (xw l).getD i zU.dflt ∈ ZW l l.length := by rw [rq]; exact (List.mem_filter.1 (yJ hi)).1
    obtain ⟨x1, _⟩ := k2 _ hm
    obtain ⟨f1, f2, f3, f4⟩ := wT x1 (by decide)
    unfold Ox
    have e1 : zU.dec (α := Tm) (fun j => zU.enc ((xw l).getD i zU.dflt) j) = (xw l).getD i zU.dflt := y9.dec _
    have e2 : zU.ok (α := Tm) (fun j => zU.enc ((xw l).getD i zU.dflt) j) = true := y9.ok _
    rw [e1, e2, Bool.true_and, Bool.and_eq_true]
    exact ⟨Nat.ble_eq_true_of_le f4, Nat.ble_eq_true_of_le (by rw [f3]; decide)⟩
   ·have hP := MV h p1 p2
    have hpl : p.length = (xw l).length := by rw [p1.length_eq, List.length_range]
    refine ⟨rfl, fun h => h, rfl, hmk, fun i j hi hj => ?_⟩
    have : (p.map fun i => (xw l).getD i zU.dflt).getD i zU.dflt = (xw l).getD (p.getD i 0) zU.dflt := by
     simp [List.getD_eq_getElem?_getD, List.getElem?_map, List.getElem?_eq_getElem (show i < p.length by omega)]
    show zE (zU.enc ((xw l).getD (p.getD i 0) zU.dflt) j) (zU.enc ((ZD l).getD i zU.dflt) j)
    rw [hP, this]
    exact zS _
   ·rw [Nat.beq_refl] at c; cases c
theorem kQ {G : List (Nat × Obj)} (hG : zo G) (l : List Tm) (h : wv l) : zt Tryz.prog G 20 [ZE l] (.tup 2 (zw [ZE (ZD l), .i 0])) :=
 zW (T := HR G l) (an := KR l) mixed (oT hG l) (Eq.mp (by kernel_rfl) (j6 G l h))
theorem nh {G : List (Nat × Obj)} (hG : zo G) : zp Tryz.prog G 20 SH := by
 intro xs ps r h hp
 unfold SH at h
 split at h
 ·skip
  rename_i x_l
  cases h
  obtain ⟨q0, q1, -⟩ := ZH hp
  exact weaken (ys := [ZE (ZO (α := Tm) x_l)]) ⟨zG q0, trivial⟩ (kQ hG (ZO (α := Tm) x_l) q1)
 ·cases h
end Go.Te
