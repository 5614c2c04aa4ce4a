/- root: the normal form and the ratio of roots, of numbers with few digits. -/
import Derived.Test.YtgpbohfbhfbelaaGreatDoorTkQa
import Derived.Test.YtgpbohfbhfbelaaGreatDoorArZ
import Derived.Shelf.SlLaysF0
import Derived.Shelf.SlSortCmp.NoneTotal
import Derived.Test.YtgpbohfbhfbelaaGreatDoorSxSo
import Derived.Test.YtgpbohfbhfbelaaGreatDoorTkS
import Derived.Test.YtgpbohfbhfbelaaGreatDoorProg
import Derived.Test.YtgpbohfbhfbelaaGreatDoorTkIf
set_option linter.unusedSimpArgs false
set_option linter.unusedVariables false
namespace Go.Te
open Go Go.Sx Go.Proofs Go.Ar
set_option maxRecDepth 100000
set_option maxHeartbeats 4000000
def rI : List AV → Option (List zN × AV)
 | [.v (.int .i64 n), .v (.int .i64 d)] => some ([.p (0 < n), .p (0 < d ∧ d ≤ 10000000000000000), .p (n * d ≤ 100000000000000000)], .tup 2 (zw [.str (ZI (nrm (n * d).toNat).1 d.toNat), .str (Lib.itoa (nrm (n * d).toNat).2)]))
 | _ => none
theorem jH {G : List (Nat × Obj)} (hG : zO G) : zQ Tryz.prog G 220 rI := by
 intro xs ps r h hp
 unfold rI at h
 split at h
 ·rename_i n d
  cases h
  obtain ⟨q0, q1, q2, -⟩ := ZT hp
  have hs := O3 hG
  obtain ⟨_, t, fr, G', rfl⟩ := hG
  exact zW mixed hs (Eq.mp (by kernel_rfl) (M0 t fr G' n d q0 q1 q2) : vP Tryz.prog (EP ((1, Obj.cells zK t fr) :: G')) 220 (lK (n * d).toNat) [.i n, .i d] (.tup 2 (zw [.str (ZI (nrm (n * d).toNat).1 d.toNat), .str (Lib.itoa (nrm (n * d).toNat).2)])))
 ·cases h
theorem UR {a : zj} (h : zH a = 0) (h0 : 0 ≤ zP a) : zJ a = false := by
 have h2 := Rat.num_nonneg.2 h0
 rw [(ZE h).1] at h2
 have := (rG (a := a)).1
 cases hm : zJ a with
 | false => rfl
 | true =>
  rw [hm, cond_true] at this
  have hz : zL a = 0 := by omega
  have e := wm (Zr.1 h).1
  rw [hz] at e
  rw [← e] at hm
  have : ∀ r : zj, zJ (Lib.itoa ((0 : Nat) : Int) ++ r) = false := fun r => by rw [Go.Ar.Z0, ZZ (by omega)]; rfl
  have := this (bif Nat.beq (zo a) 1 then [] else 47 :: Lib.decDigits (zo a))
  unfold YP at hm
  rw [show Lib.itoa (0 : Int) = Lib.itoa ((0 : Nat) : Int) from rfl, this] at hm
  cases hm
theorem K1 {n : Int} (h : 0 ≤ n) : zJ (Lib.itoa n) = false ∧ zp (Lib.itoa n) = Lib.itoa n := by
 obtain ⟨m, rfl⟩ : ∃ m : Nat, n = m := ⟨n.toNat, by omega⟩
 have hd := (Zt.1 (Yp m))
 have hm : zJ (Lib.itoa (m : Int)) = false := by
  rw [Go.Ar.Z0]
  match hq : Lib.decDigits m, hd with
  | c :: r, hd =>
   have := Yu.1 (hd.2.1 c List.mem_cons_self)
   exact beq_eq_false_iff_ne.2 fun e => by subst e; exact absurd this.1 (by decide)
 refine ⟨hm, ?_⟩
 unfold zp
 rw [hm]; rfl
theorem Uu (n : Int) : (zp (Lib.itoa n)).length = Xu n := by
 by_cases h : 0 ≤ n
 ·rw [(K1 h).2, XK, if_neg (by omega)]; rfl
 ·have e : Lib.itoa n = 45 :: Lib.decDigits n.natAbs := by
   have := Go.Ar.itoa_neg (n := n.natAbs) (by omega)
   rw [show -((n.natAbs : Nat) : Int) = n by omega] at this
   exact this
  rw [e]
  show (Lib.decDigits n.natAbs).length = _
  rw [Lib.decDigits_length]; rfl
def gL (r : AV) : List AV → Option (List zN × AV) := fun _ => some ([.p False], r)
theorem qq {P : Program} {G : List (Nat × Obj)} {f : FuncId} (r : AV) : zQ P G f (gL r) := by
 intro xs ps r' h hp
 cases h
 exact (hp _ List.mem_cons_self).elim
def se : List AV → Option (List zN × AV)
 | [.str a] => some ([.p (yX 300 a)], .agg 2 (zw [.str (Lib.itoa (zP a).num), .str (Lib.itoa ((zP a).den : Int))]))
 | _ => none
theorem IS (G : List (Nat × Obj)) (a : List UInt8) (hr : yX 300 a) :
 zB [AV.str a] → yX 300 a ∧ 2 = 2 ∧ Lib.itoa (Rat.num (zP a)) = Lib.itoa (Rat.num (zP a)) ∧ Lib.itoa (cI (Rat.den (zP a))) = Lib.itoa (cI (Rat.den (zP a))) := by
 delta cI
 intro hb
 simp only [sS, dS]
 exact hr
theorem GW {G : List (Nat × Obj)} (hG : zO G) (a : List UInt8) (hr : yX 300 a) : zv Tryz.prog G 148 [.str a] (.agg 2 (zw [.str (Lib.itoa (zP a).num), .str (Lib.itoa ((zP a).den : Int))])) :=
 zW (T := (Xz G).plus 155 TR) (an := .auto) mixed (zz.plus zr (rq hG)) (Eq.mp (by kernel_rfl) (IS G a hr))
theorem Oz {G : List (Nat × Obj)} (hG : zO G) : zQ Tryz.prog G 148 se := by
 intro xs ps r h hp
 unfold se at h
 split at h
 ·skip
  rename_i a
  cases h
  obtain ⟨q0, -⟩ := ZT hp
  exact weaken (ys := [.str a]) ⟨zV _, trivial⟩ (GW hG a q0)
 ·cases h
def Un : List AV → Option (List zN × AV)
 | [.str m] => some ([.p (Zy m = true), .p (m.length ≤ 17)], .tup 2 (zw [.i (zX m), .b true]))
 | _ => none
theorem LR (m : List UInt8) (hi : Zy m = true) (hl : m.length ≤ 17) :
 zB [AV.str m] → zZ (zM (17 : Int) (lZ m)) (j2 ∧ (True ∧ kI ∧ iZ = zX m) ∧ false = true) (bF (Zy m) (lN m ≤ 18 ∧ j2 ∧ (True ∧ kI ∧ zX m = zX m) ∧ true = true)) := by
 delta bF kI j2 lZ lN iZ
 intro hb
 simp only [sS, dS]
 refine ⟨fun h => by omega, fun _ => ?_⟩
 rw [hi]
 exact ⟨by omega, rfl⟩
theorem Jr (m : List UInt8) (hi : Zy m = true) (hl : m.length ≤ 17) : zv Tryz.prog [] 219 [.str m] (.tup 2 (zw [.i (zX m), .b true])) :=
 zW (T := T0.plus 134 uK) (an := .auto) mixed (zz.plus zr RS) (Eq.mp (by kernel_rfl) (LR m hi hl))
theorem Ou : zQ Tryz.prog [] 219 Un := by
 intro xs ps r h hp
 unfold Un at h
 split at h
 ·skip
  rename_i m
  cases h
  obtain ⟨q0, q1, -⟩ := ZT hp
  exact weaken (ys := [.str m]) ⟨zV _, trivial⟩ (Jr m q0 q1)
 ·cases h
def Up : List AV → Option (List zN × AV)
 | [.str s, .str p] => some ([.b (p == [45]), .p (zJ s = false)], .b false)
 | _ => none
theorem Ot : zQ Tryz.prog [] 102 Up := by
 intro xs ps r h hp
 unfold Up at h
 split at h
 ·rename_i s p
  cases h
  have q : (p == [45]) = true := hp _ List.mem_cons_self
  have q1 : zJ s = false := hp _ (List.mem_cons_of_mem _ List.mem_cons_self)
  have : zv Tryz.prog [] 102 [.str s, .str p] (.b (zJ s)) := RR [.str s, .str p] _ _ rfl fun c hc => by
   rw [List.mem_singleton] at hc
   rw [hc]; exact q
  rw [q1] at this
  exact this
 ·cases h
noncomputable def Fw (G : List (Nat × Obj)) : Tb := (((((Xz G).plus 29 uV).plus 148 se).plus 83 (Yq fun s => .str (zp s))).plus 102 Up).body Tryz.prog [(203, .auto)]
theorem uU {G : List (Nat × Obj)} (hG : zO G) : zz Tryz.prog (Fw G) := zz.body mixed (zz.plus (zz.plus (zz.plus (zz.plus zr (TP hG)) (Oz hG)) (zQ.mono W1)) (zQ.mono Ot)) _
def km  : yV :=
 .two .auto (.two (.two .auto (.one (.unroll 2 .auto))) (.two (.two .auto (.one (.unroll 2 .auto))) .auto))
def jl  : yV :=
 .two .auto (.two (.two .auto (.one (.unroll 3 .auto))) (.two (.two .auto (.one (.unroll 3 .auto))) .auto))
theorem Li {x : Rat} (h : bq 90 x) : (zp (Lib.itoa x.num)).length ≤ 90 ∧ (Lib.itoa (x.den : Int)).length ≤ 90 := by
 rw [Uu, Go.Ar.Z0, Lib.decDigits_length]
 exact ⟨x5 (by decide) h.1, (ZX (by decide)).2 h.2⟩
structure TE (a : zj) : Prop where
 ok : yX 90 a
 pos : 0 ≤ zP a
theorem Vm {a : zj} (h : TE a) : yX 300 a ∧ (zp (Lib.itoa (zP a).num)).length ≤ 90 ∧ (Lib.itoa ((zP a).den : Int)).length ≤ 90 ∧ zJ a = false := ⟨h.1.mono (by decide), (Li h.1.2).1, (Li h.1.2).2, UR h.1.1 h.2⟩
theorem kJ (G : List (Nat × Obj)) (a : zj) (ha : TE a) :
 let q1 := (lZ (Lib.itoa (cI (Rat.den (zP a))))); let q2 := (lZ (zp (Lib.itoa (Rat.num (zP a))))); zB [AV.xl false 1 1 fun (x x_1 : Nat) => AV.str a, AV.xl false 1 1 fun (x x_1 : Nat) => AV.str a] → yX 300 a ∧ yX 300 a ∧ zZ (zM (90 : Int) (if q1 > q2 then q1 else q2)) (kI ∧ (4 : Int) = iZ) (zJ a = false ∧ kI ∧ iZ = iZ) := by
 delta cI kI lZ iZ
 dsimp only
 intro hb
 simp only [sS, dS]
 obtain ⟨a1, a2, a3, a4⟩ := Vm ha
 exact ⟨a1, a1, fun h => by split at h <;> omega, fun _ => a4⟩
theorem L4 (G : List (Nat × Obj)) (a b : zj) (ha : TE a) (hc : TE b) :
 let q1 := (lZ (Lib.itoa (cI (Rat.den (zP a))))); let q2 := (lZ (zp (Lib.itoa (Rat.num (zP a))))); let q3 := (kI ∧ (4 : Int) = iZ); let q4 := (lZ (Lib.itoa (cI (Rat.den (zP b))))); let q5 := (lZ (zp (Lib.itoa (Rat.num (zP b))))); zB [AV.xl false 1 2 fun (i x : Nat) => zw [AV.str a, AV.str b] i, AV.xl false 1 2 fun (i x : Nat) => zw [AV.str a, AV.str b] i] → yX 300 a ∧ yX 300 a ∧ zZ (zM (90 : Int) (if q1 > q2 then q1 else q2)) q3 (yX 300 b ∧ yX 300 b ∧ zZ (zM (90
 : Int) (if q4 > q5 then q4 else q5)) q3 (zJ a = false ∧ zJ b = false ∧ kI ∧ iZ = iZ)) := by
 delta cI kI lZ iZ
 dsimp only
 intro hb
 simp only [sS, dS]
 obtain ⟨a1, a2, a3, a4⟩ := Vm ha
 obtain ⟨b1, b2, b3, b4⟩ := Vm hc
 exact ⟨a1, a1, fun h => by split at h <;> omega, fun _ => ⟨b1, b1, fun h => by split at h <;> omega, fun _ => ⟨a4, b4⟩⟩⟩
theorem Rs {f : Bool} {x : Nat → Nat → AV} {a : zj} (h : z7 (x 0 0) = true) (e : AV.bytes (x 0 0) = a) : zi (.xl f 1 1 x) (.xl false 1 1 fun _ _ => .str a) := by
 refine ⟨(fun h => by cases h), rfl, rfl, fun i j hi hj => ?_⟩
 obtain rfl : i = 0 := by omega
 obtain rfl : j = 0 := by omega
 rw [← e]
 exact Zj (XN h)
theorem rN {f : Bool} {x : Nat → Nat → AV} {a b : zj} (h : z7 (x 0 0) = true) (h2 : z7 (x 1 0) = true) (e : AV.bytes (x 0 0) = a) (e2 : AV.bytes (x 1 0) = b) : zi (.xl f 1 2 x) (.xl false 1 2 fun i _ => zw [.str a, .str b] i) := by
 refine ⟨(fun h => by cases h), rfl, rfl, fun i j hi hj => ?_⟩
 obtain rfl : j = 0 := by omega
 rw [← e, ← e2]
 match i, hi with
 | 0, _ => exact Zj (XN h)
 | 1, _ => exact Zj (XN h2)
def oh : List AV → Option (List zN × AV)
 | [.xl _ 1 1 x, .xl _ 1 1 y] => some ([.b (z7 (x 0 0) && z7 (y 0 0) && (AV.bytes (y 0 0) == AV.bytes (x 0 0))), .p (TE (AV.bytes (x 0 0)))], .i 0)
 | [.xl _ 1 2 x, .xl _ 1 2 y] => some ([.b (z7 (x 0 0) && z7 (x 1 0) && z7 (y 0 0) && z7 (y 1 0) && (AV.bytes (y 0 0) == AV.bytes (x 0 0)) && (AV.bytes (y 1 0) == AV.bytes (x 1 0))), .p (TE (AV.bytes (x 0 0))), .p (TE (AV.bytes (x 1 0)))], .i 0)
 | _ => none
theorem JD {G : List (Nat × Obj)} (hG : zO G) : zQ Tryz.prog G 146 oh := by
 intro xs ps r h hp
 unfold oh at h
 split at h
 ·rename_i x _ y
  cases h
  have q0 : (z7 (x 0 0) && z7 (y 0 0) && (AV.bytes (y 0 0) == AV.bytes (x 0 0))) = true := hp _ List.mem_cons_self
  have q1 := hp _ (List.mem_cons_of_mem _ List.mem_cons_self)
  simp only [Bool.and_eq_true, beq_iff_eq] at q0
  exact weaken (ys := [_, _]) ⟨Rs q0.1.1 rfl, Rs q0.1.2 q0.2, trivial⟩ (zW mixed (uU hG) (Eq.mp (by kernel_rfl) (kJ G (AV.bytes (x 0 0)) q1) : vP Tryz.prog (Fw G) 146 km [.xl false 1 1 (fun _ _ => .str (AV.bytes (x 0 0))), .xl false 1 1 (fun _ _ => .str (AV.bytes (x 0 0)))] (.i 0)))
 ·rename_i x _ y
  cases h
  have q0 : (z7 (x 0 0) && z7 (x 1 0) && z7 (y 0 0) && z7 (y 1 0) && (AV.bytes (y 0 0) == AV.bytes (x 0 0)) && (AV.bytes (y 1 0) == AV.bytes (x 1 0))) = true := hp _ List.mem_cons_self
  have q1 := hp _ (List.mem_cons_of_mem _ List.mem_cons_self)
  have q2 := hp _ (List.mem_cons_of_mem _ (List.mem_cons_of_mem _ List.mem_cons_self))
  simp only [Bool.and_eq_true, beq_iff_eq] at q0
  exact weaken (ys := [_, _]) ⟨rN q0.1.1.1.1.1 q0.1.1.1.1.2 rfl rfl, rN q0.1.1.1.2 q0.1.1.2 q0.1.2 q0.2, trivial⟩ (zW mixed (uU hG) (Eq.mp (by kernel_rfl) (L4 G (AV.bytes (x 0 0)) (AV.bytes (x 1 0)) q1 q2) : vP Tryz.prog (Fw G) 146 jl [.xl false 1 2 (fun i _ => zw [.str (AV.bytes (x 0 0)), .str (AV.bytes (x 1 0))] i), .xl false 1 2 (fun i _ => zw [.str (AV.bytes (x 0 0)), .str (AV.bytes (x 1 0))] i)] (.i 0)))
 ·cases h
theorem tV (n : Int) : 0 < Xu n := by
 unfold Xu
 rw [← Lib.decDigits_length]
 exact yH _
theorem X2 (n : Int) : n.natAbs < 10 ^ Xu n := (ZX (tV n)).1 (Nat.le_refl _)
theorem qU {n : Int} (h : n ≠ 0) : (Lib.itoa n == [48]) = false := beq_eq_false_iff_ne.2 fun e => by
 have := (za n).2
 rw [e] at this
 have h0 : zX [48] = 0 := by decide
 omega
theorem Xn (k : Nat) : zu (k : Rat) = Lib.itoa (k : Int) := by rw [← Rat.intCast_natCast, qD]
structure Lb (a : zj) : Prop where
 ok : yX 90 a
 pos : 0 < zP a
 len : Xu (zP a).num + Lib.nDigits (zP a).den ≤ 17
noncomputable def EY (G : List (Nat × Obj)) : Tb := ((((((Xz G).plus 146 oh).plus 148 se).plus 219 Un).plus 220 rI).plus 151 (gL (.str []))).plus 221 (gL .junk)
theorem ON {G : List (Nat × Obj)} (hG : zO G) : zz Tryz.prog (EY G) := zz.plus (zz.plus (zz.plus (zz.plus (zz.plus (zz.plus zr (JD hG)) (Oz hG)) (zQ.mono Ou)) (jH hG)) (qq _)) (qq _)
def nK (x : Rat) : Rat := mkRat (nrm (mQ x)).1 x.den
def nL (x : Rat) : Rat := ((nrm (mQ x)).2 : Rat)
def UP : List AV → Option (List zN × AV)
 | [.str q] => some ([.p (Lb q)], .tup 3 (zw [.str (zu (nK (zP q))), .str (zu (nL (zP q))), .i 0]))
 | _ => none
theorem Mh (G : List (Nat × Obj)) (q : List UInt8) (hr : Lb q) :
 zB [AV.str q] → zZ (z7 (AV.str q) && z7 (AV.str q) && AV.bytes (AV.str q) == AV.bytes (AV.str q)) (TE (AV.bytes (AV.str q)) ∧ yX 300 q ∧ zZ (Lib.itoa (Rat.num (zP q)) == bA #[(48 : UInt8)]) (3 = lN [AV.junk, AV.junk, AV.junk] ∧ ((True ∧ bA #[(48 : UInt8)] = zu (nK (zP q))) ∧ bA #[(49 : UInt8)] = zu (nL (zP q))) ∧ kI ∧ iZ = iZ) (bF (DB.db (ZB .i64 ((lZ (Lib.itoa (Rat.num (zP q)))) +
 (lZ (Lib.itoa (cI (Rat.den (zP q)))))))) (zZ (leB ((lZ (Lib.itoa (Rat.num (zP q)))) + (lZ (Lib.itoa (cI (Rat.den (zP q)))))) (17 : Int)) (Zy (Lib.itoa (Rat.num (zP q))) = true ∧ lN (Lib.itoa (Rat.num (zP q))) ≤ 17 ∧ Zy (Lib.itoa (cI (Rat.den (zP q)))) = true ∧ lN (Lib.itoa (cI (Rat.den (zP q)))) ≤ 17 ∧ iZ < zX (Lib.itoa (Rat.num (zP q))) ∧ (iZ < zX (Lib.itoa (cI (Rat.den (zP q)))) ∧ zX (Lib.itoa (cI (Rat.den (zP q)))) ≤ (10000000000000000 : Int)) ∧ zX (Lib.itoa
 (Rat.num (zP q))) * zX (Lib.itoa (cI (Rat.den (zP q)))) ≤ (100000000000000000 : Int) ∧ 3 = lN [AV.junk, AV.junk, AV.junk] ∧ ((True ∧ ZI (↑(Prod.fst (nrm (Int.toNat (zX (Lib.itoa (Rat.num (zP q))) * zX (Lib.itoa (cI (Rat.den (zP q)))))))) : Int) (Int.toNat (zX (Lib.itoa (cI (Rat.den (zP q)))))) = zu (nK (zP q))) ∧ Lib.itoa (↑(Prod.snd (nrm (Int.toNat (zX (Lib.itoa (Rat.num (zP q))) * zX (Lib.itoa (cI (Rat.den (zP q)))))))) : Int) = zu (nL (zP q))) ∧ kI ∧ iZ = iZ) (False ∧ False ∧ Ze (Operand.tmp 66)))))
 False := by
 delta bF bA cI kI lZ lN iZ
 intro hb
 simp only [sS, dS]
 have hc : TE q := ⟨hr.ok, Rat.le_of_lt hr.pos⟩
 have c1 : (z7 (AV.str q) && z7 (AV.str q) && (AV.str q).bytes == (AV.str q).bytes) = true := by
  show (true && true && (q == q)) = true
  simp
 have h300 := hr.ok.mono (k := 300) (by decide)
 have hl := hr.len
 have hp := hr.pos
 generalize zP q = x at *
 have hn : 0 < x.num := by
  have := Rat.num_nonneg.2 (Rat.le_of_lt hp)
  have h2 : x.num ≠ 0 := fun e => (Rat.ne_of_gt hp) (Rat.num_eq_zero.1 e)
  omega
 have hd := x.den_pos
 have l1 : (Lib.itoa x.num).length = Xu x.num := by rw [XK, if_neg (by omega)]; rfl
 have l2 : (Lib.itoa (x.den : Int)).length = Lib.nDigits x.den := by rw [Go.Ar.Z0, Lib.decDigits_length]
 have b1 := X2 x.num
 have b2 := X2 (x.den : Int)
 have e2 : Xu (x.den : Int) = Lib.nDigits x.den := by unfold Xu; rw [Int.natAbs_natCast]
 rw [e2, Int.natAbs_natCast] at b2
 have b3 : x.num.natAbs * x.den < 10 ^ 17 := by
  refine Nat.lt_of_lt_of_le (Nat.mul_lt_mul'' b1 b2) ?_
  rw [← Nat.pow_add]
  exact Nat.pow_le_pow_right (by omega) hl
 have p1 := tV x.num
 have b4 : x.den < 10 ^ 16 := Nat.lt_of_lt_of_le b2 (Nat.pow_le_pow_right (by omega) (by omega))
 rw [show 10 ^ 16 = 10000000000000000 from by decide] at b4
 rw [show 10 ^ 17 = 100000000000000000 from by decide] at b3
 have i1 := za x.num
 have i2 := za (x.den : Int)
 have z1 : (Lib.itoa x.num == [48]) = false := qU (by omega)
 have em : (x.num * (x.den : Int)).toNat = mQ x := by
  unfold mQ
  obtain ⟨N, hN⟩ : ∃ N : Nat, x.num = N := ⟨x.num.toNat, by omega⟩
  rw [hN, ← Int.natCast_mul, Int.toNat_natCast, Int.toNat_natCast]
 have eb : x.num * (x.den : Int) ≤ 100000000000000000 := by
  obtain ⟨N, hN⟩ : ∃ N : Nat, x.num = N := ⟨x.num.toNat, by omega⟩
  rw [hN, Int.natAbs_natCast] at b3
  rw [hN, ← Int.natCast_mul]
  omega
 rw [i1.2, i2.2, em, l1, l2, z1]
 refine zY.2 ⟨fun _ => ⟨hc, h300, ?_⟩, fun c => by rw [c1] at c; cases c⟩
 show ZB .i64 _ ∧ _
 refine ⟨by simp only [ZB]; omega, fun _ => ⟨i1.1, by omega, i2.1, by omega, hn, ⟨by omega, by omega⟩, eb, rfl, ?_, ?_⟩, fun h => by omega⟩
 ·rw [Int.toNat_natCast, xn _ hd]; rfl
 ·exact (Xn _).symm
theorem K6 {G : List (Nat × Obj)} (hG : zO G) (q : List UInt8) (hr : Lb q) : zv Tryz.prog G 184 [.str q] (.tup 3 (zw [.str (zu (nK (zP q))), .str (zu (nL (zP q))), .i 0])) :=
 zW (T := EY G) (an := .auto) mixed (ON hG) (Eq.mp (by kernel_rfl) (Mh G q hr))
theorem oV {G : List (Nat × Obj)} (hG : zO G) : zQ Tryz.prog G 184 UP := by
 intro xs ps r h hp
 unfold UP at h
 split at h
 ·skip
  rename_i q
  cases h
  obtain ⟨q0, -⟩ := ZT hp
  exact weaken (ys := [.str q]) ⟨zV _, trivial⟩ (K6 hG q q0)
 ·cases h
noncomputable def Ew (G : List (Nat × Obj)) : Tb := (((LC G).plus 219 Un).plus 248 Ur).plus 152 (gL (.tup 2 (zw [.str [], .i 0]))) |>.plus 151 (gL (.str []))
theorem Nu {G : List (Nat × Obj)} (hG : zO G) : zz Tryz.prog (Ew G) := zz.plus (zz.plus (zz.plus (zz.plus (YK hG) (zQ.mono Ou)) (zQ.mono oD)) (qq _)) (qq _)
def Pv : List AV → Option (List zN × AV)
 | [.str m] => some ([.p (Zy m = true), .p (m.length ≤ 17), .p (0 ≤ zX m)], .tup 2 (zw [.str (Lib.itoa (Yx (zX m).toNat : Int)), .b (Nat.beq (Yx (zX m).toNat * Yx (zX m).toNat) (zX m).toNat)]))
 | _ => none
theorem KS (G : List (Nat × Obj)) (m : List UInt8) (hi : Zy m = true) (hl : m.length ≤ 17) (h0 : 0 ≤ zX m) :
 zB [AV.str m] → Zy m = true ∧ lN m ≤ 17 ∧ (iZ ≤ zX m ∧ zX m ≤ (1000000000000000000 : Int)) ∧ (iN ≤ (cI (Yx (Int.toNat (zX m)))) ∧ (cI (Yx (Int.toNat (zX m)))) ≤ iX) ∧ bF (DB.db (ZB .i64 ((cI (Yx (Int.toNat (zX m)))) * (cI (Yx (Int.toNat (zX m))))))) (j2 ∧ (True ∧ Lib.itoa (cI (Yx (Int.toNat (zX m)))) = Lib.itoa (cI (Yx (Int.toNat (zX m))))) ∧ ((cI (Yx (Int.toNat (zX m)))) * (cI (Yx (Int.toNat (zX m)))) == zX m) = Nat.beq (Yx
 (Int.toNat (zX m)) * Yx (Int.toNat (zX m))) (Int.toNat (zX m))) := by
 delta bF cI j2 lN iZ iX iN
 intro hb
 simp only [sS, dS]
 obtain ⟨m', hm⟩ : ∃ k : Nat, zX m = k := ⟨(zX m).toNat, by omega⟩
 have hb2 : (zX m).natAbs < 10 ^ 17 := Nat.lt_of_lt_of_le (na hi) (Nat.pow_le_pow_right (by omega) hl)
 rw [show 10 ^ 17 = 100000000000000000 from by decide] at hb2
 rw [hm, Int.natAbs_natCast] at hb2
 rw [hm, Int.toNat_natCast]
 obtain ⟨s1, s2⟩ := xG (n := m') (by omega)
 have hr : Yx m' < 1000000000 := X7 (by omega)
 refine ⟨hi, hl, ⟨by omega, by omega⟩, ⟨by omega, by omega⟩, by rw [← Int.natCast_mul]; simp only [ZB]; omega, rfl, ?_⟩
 rw [← Int.natCast_mul, Bool.eq_iff_iff, beq_iff_eq, Nat.beq_eq]
 omega
theorem iK {G : List (Nat × Obj)} (hG : zO G) (m : List UInt8) (hi : Zy m = true) (hl : m.length ≤ 17) (h0 : 0 ≤ zX m) : zv Tryz.prog G 222 [.str m] (.tup 2 (zw [.str (Lib.itoa (Yx (zX m).toNat : Int)), .b (Nat.beq (Yx (zX m).toNat * Yx (zX m).toNat) (zX m).toNat)])) :=
 zW (T := Ew G) (an := .auto) mixed (Nu hG) (Eq.mp (by kernel_rfl) (KS G m hi hl h0))
theorem H6 {G : List (Nat × Obj)} (hG : zO G) : zQ Tryz.prog G 222 Pv := by
 intro xs ps r h hp
 unfold Pv at h
 split at h
 ·skip
  rename_i m
  cases h
  obtain ⟨q0, q1, q2, -⟩ := ZT hp
  exact weaken (ys := [.str m]) ⟨zV _, trivial⟩ (iK hG m q0 q1 q2)
 ·cases h
structure Jl (p q : zj) : Prop where
 fp : TE p
 fq : TE q
 pos : 0 < zP q
 num : Xu (zP p / zP q).num ≤ 17
 den : Lib.nDigits (zP p / zP q).den ≤ 17
noncomputable def eP (G : List (Nat × Obj)) : Tb := ((((Xz G).plus 146 oh).plus 148 se).plus 164 rM).plus 222 Pv |>.body Tryz.prog [(185, .auto), (223, .auto)] |>.body Tryz.prog [(185, .auto)]
theorem O4 {G : List (Nat × Obj)} (hG : zO G) : zz Tryz.prog (eP G) := zz.body mixed (zz.body mixed (zz.plus (zz.plus (zz.plus (zz.plus zr (JD hG)) (Oz hG)) (Pi hG)) (H6 hG)) _) _
def U7 : List AV → Option (List zN × AV)
 | [.str p, .str q] => some ([.p (Jl p q)], .tup 3 (zw [.str (bif y7 (zP p) (zP q) then zu (Wx (zP p) (zP q)) else []), .b (y7 (zP p) (zP q)), .i 0]))
 | _ => none
theorem jI (G : List (Nat × Obj)) (p : List UInt8) (q : List UInt8) (hr : Jl p q) :
 let q1 := ((True ∧ bA #[] = bif y7 (zP p) (zP q) then zu (Wx (zP p) (zP q)) else []) ∧ false = y7 (zP p) (zP q)); let q2 := (Lib.itoa (Rat.num (zP (zu (zP p / zP q))))); let q3 := (Lib.itoa (cI (Rat.den (zP (zu (zP p / zP q)))))); let q5 := (Int.toNat (zX q2)); let q4 := (Yx q5 * Yx q5); let q6 := (Int.toNat (zX q3)); let q7 := (Lib.itoa (cI (Yx q5))); let q8 := (Lib.itoa (cI (Yx q6))); zB [AV.str p, AV.str q] → bF (z7 (AV.str p) && z7 (AV.str q) && z7 (AV.str p) && z7 (AV.str q) && AV.bytes
 (AV.str p) == AV.bytes (AV.str p) && AV.bytes (AV.str q) == AV.bytes (AV.str q)) (TE (AV.bytes (AV.str p)) ∧ TE (AV.bytes (AV.str q)) ∧ zZ (q == bA #[(48 : UInt8)]) (3 = lN [AV.junk, AV.junk, AV.junk] ∧ q1 ∧ kI ∧ (12 : Int) = iZ) (gI p q ∧ yX 300 (zu (zP p / zP q)) ∧ Zy q2 = true ∧ lN q2 ≤ 17 ∧ iZ ≤ zX q2 ∧ Zy q3 = true ∧ lN q3 ≤ 17 ∧ iZ ≤ zX q3 ∧ bF (!zS false !Nat.beq q4 q5 || zS false !Nat.beq q4 q5) (zZ (!!!Nat.beq q4 q5 || zS false !Nat.beq q4 q5)
 (zZ (bif !Nat.beq q4 q5 then true else !Nat.beq (Yx q6 * Yx q6) q6) (3 = lN [AV.junk, AV.junk, AV.junk] ∧ q1 ∧ kI ∧ iZ = iZ) (gI q7 q8 ∧ 3 = lN [AV.junk, AV.junk, AV.junk] ∧ ((True ∧ zu (zP q7 / zP q8) = bif y7 (zP p) (zP q) then zu (Wx (zP p) (zP q)) else []) ∧ true = y7 (zP p) (zP q)) ∧ kI ∧ iZ = iZ)) False))) := by
 delta bF bA cI kI lN iZ
 dsimp only
 intro hb
 simp only [sS, dS]
 have c1 : (z7 (AV.str p) && z7 (AV.str q) && z7 (AV.str p) && z7 (AV.str q) && (AV.str p).bytes == (AV.str p).bytes && (AV.str q).bytes == (AV.str q).bytes) = true := by
  show (true && true && true && true && (p == p) && (q == q)) = true
  simp
 have hz : (q == [48]) = false := beq_eq_false_iff_ne.2 fun e => by
  have := hr.pos
  rw [e] at this
  exact absurd this (by decide +kernel)
 have hne : zP q ≠ 0 := Rat.ne_of_gt hr.pos
 have hb1 : bq 180 (zP p / zP q) := by
  rw [Rat.div_def]
  have h2 := hr.fq.ok.bq
  refine PH (j := 90) (k := 90) hr.fp.ok.bq ⟨?_, ?_⟩
  ·rw [Rat.num_inv, Int.natAbs_mul, Int.natAbs_natCast]
   have hs : (zP q).num.sign.natAbs ≤ 1 := by rw [Int.natAbs_sign]; split <;> omega
   exact Nat.lt_of_le_of_lt (Nat.mul_le_mul_right _ hs) (by rw [Nat.one_mul]; exact h2.den)
  ·rw [Rat.den_inv, if_neg fun e => hne (Rat.num_eq_zero.1 e)]
   exact h2.num
 have hX : 0 ≤ zP p / zP q := by
  rw [Rat.div_def]
  exact Rat.mul_nonneg hr.fp.pos (Rat.le_of_lt (Rat.inv_pos.2 hr.pos))
 have hn := hr.num
 have hd := hr.den
 have hv : gI p q := ⟨hr.fp.ok.mono (by decide), hr.fq.ok.mono (by decide), hne⟩
 have eB : y7 (zP p) (zP q) = G3 (zP p / zP q) := rfl
 have eV : Wx (zP p) (zP q) = Gl (zP p / zP q) := rfl
 rw [eB, eV, hz]
 refine zY.2 ⟨fun _ => ⟨hr.fp, hr.fq, zY.2 ⟨fun c => (by cases c), fun _ => ⟨hv, (Zm (by decide) (by decide)).2 (hb1.mono (by decide)), ?_⟩⟩⟩, fun c => by rw [c1] at c; cases c⟩
 simp only [zn, (za _).2]
 generalize zP p / zP q = x at *
 have hx := Rat.num_nonneg.2 hX
 have b1 := X2 x.num
 have e2 : Xu (x.den : Int) = Lib.nDigits x.den := by unfold Xu; rw [Int.natAbs_natCast]
 have b2 := X2 (x.den : Int)
 rw [e2, Int.natAbs_natCast] at b2
 have k1 : x.num.natAbs < 10 ^ 17 := Nat.lt_of_lt_of_le b1 (Nat.pow_le_pow_right (by omega) hn)
 have k2 : x.den < 10 ^ 17 := Nat.lt_of_lt_of_le b2 (Nat.pow_le_pow_right (by omega) hd)
 have k3 : (10 : Nat) ^ 17 = 100000000000000000 := by decide
 rw [k3] at k1 k2
 have l1 : (Lib.itoa x.num).length ≤ 17 := by rw [XK, if_neg (by omega)]; omega
 have l2 : (Lib.itoa (x.den : Int)).length ≤ 17 := by rw [Go.Ar.Z0, Lib.decDigits_length]; exact hd
 obtain ⟨N, hN⟩ : ∃ N : Nat, x.num = N := ⟨x.num.toNat, by omega⟩
 have dp := x.den_pos
 refine ⟨(za _).1, l1, hx, (za _).1, l2, by omega, ?_⟩
 unfold G3 Gl
 rw [Int.toNat_natCast]
 obtain ⟨s1, s2⟩ := xG (n := x.num.toNat) (by omega)
 obtain ⟨t1, t2⟩ := xG (n := x.den) (by omega)
 have r1 : Yx x.num.toNat < 1000000000 := X7 (by omega)
 have r2 : Yx x.den < 1000000000 := X7 (by omega)
 have oi : ∀ a : Nat, a < 1000000000 → yX 140 (Lib.itoa (a : Int)) := fun a ha => by
  rw [← Xn]
  refine (Zm (by decide) (by decide)).2 (bq.mono (j := 9) ⟨?_, ?_⟩ (by decide))
  ·rw [Rat.num_natCast, Int.natAbs_natCast]; exact ha
  ·rw [Rat.den_natCast]; decide
 have qi : ∀ a : Nat, zP (Lib.itoa (a : Int)) = (a : Rat) := fun a => by rw [← Xn, zn]
 rw [qi, qi]
 refine zY.2 ⟨fun c => ?_, fun c => ?_⟩
 ·have e : (Nat.beq (Yx x.num.toNat * Yx x.num.toNat) x.num.toNat && Nat.beq (Yx x.den * Yx x.den) x.den) = false := by
   cases h1 : Nat.beq (Yx x.num.toNat * Yx x.num.toNat) x.num.toNat with
   | false => rfl
   | true => rw [h1] at c; simpa using c
  rw [e]
  exact ⟨rfl, rfl, rfl⟩
 ·rw [Bool.or_eq_false_iff, Bool.not_eq_false', Bool.not_eq_false'] at c
  rw [c.1, c.2]
  have hd0 : Yx x.den ≠ 0 := fun e => by have := (Nat.beq_eq ▸ c.2 : Yx x.den * Yx x.den = x.den); rw [e] at this; omega
  refine ⟨⟨oi _ r1, oi _ r2, ?_⟩, rfl, ?_, rfl⟩
  ·rw [qi]
   exact fun e => hd0 (Rat.natCast_eq_zero_iff.1 e)
  ·show zu _ = zu _
   rw [Rat.mkRat_eq_div]; rfl
theorem J6 {G : List (Nat × Obj)} (hG : zO G) (p : List UInt8) (q : List UInt8) (hr : Jl p q) : zv Tryz.prog G 123 [.str p, .str q] (.tup 3 (zw [.str (bif y7 (zP p) (zP q) then zu (Wx (zP p) (zP q)) else []), .b (y7 (zP p) (zP q)), .i 0])) :=
 zW (T := eP G) (an := .auto) mixed (O4 hG) (Eq.mp (by kernel_rfl) (jI G p q hr))
theorem pF {G : List (Nat × Obj)} (hG : zO G) : zQ Tryz.prog G 123 U7 := by
 intro xs ps r h hp
 unfold U7 at h
 split at h
 ·skip
  rename_i p q
  cases h
  obtain ⟨q0, -⟩ := ZT hp
  exact weaken (ys := [.str p, .str q]) ⟨zV _, zV _, trivial⟩ (J6 hG p q q0)
 ·cases h
end Go.Te

namespace Go.Te
open Go Go.Sx Go.Proofs Go.Ar
set_option maxRecDepth 100000
set_option maxHeartbeats 4000000
def uX (s : zj) : Bool := zu (zP s) == s
theorem wk (q : Rat) : uX (zu q) = true := by unfold uX; rw [zn]; exact beq_self_eq_true _
theorem mV {x : AV} (h : (z7 x && uX (AV.bytes x)) = true) : zi x (.str (zu (zP (AV.bytes x)))) := by
 rw [Bool.and_eq_true] at h
 unfold uX at h
 rw [eq_of_beq h.2]
 exact Zj (XN h.1)
instance : zR Tm := ⟨2, ⟨0, 0⟩, fun t => zw [.str (zu t.c), .str (zu t.q)], fun cs => ⟨zP (AV.bytes (cs 0)), zP (AV.bytes (cs 1))⟩, fun cs => (z7 (cs 0) && uX (AV.bytes (cs 0))) && (z7 (cs 1) && uX (AV.bytes (cs 1))), fun cs h j hj => by
 rw [Bool.and_eq_true] at h
 match j, hj with
 | 0, _ => exact mV h.1
 | 1, _ => exact mV h.2⟩
instance : YR Tm := ⟨fun c => by
 show (⟨zP (zu c.c), zP (zu c.q)⟩ : Tm) = c
 rw [zn, zn], fun c => by
 show ((true && uX (zu c.c)) && (true && uX (zu c.q))) = true
 rw [wk, wk]; rfl⟩
theorem Z2 (c q : Rat) : yR (AV.agg 2 (zw [AV.str (zu c), AV.str (zu q)])) = (⟨c, q⟩ : Tm) := Um (⟨c, q⟩ : Tm)
theorem ZL (c q : Rat) : yo Tm (AV.agg 2 (zw [AV.str (zu c), AV.str (zu q)])) = true := Vg (⟨c, q⟩ : Tm)
def WP (x : Rat) : Int := if (Lib.nDigits x.den : Int) > (Xu x.num : Int) then (Lib.nDigits x.den : Int) else (Xu x.num : Int)
theorem VL {x : Rat} {k : Nat} (hk : 0 < k) (h : bq k x) : WP x ≤ k := by
 have a1 : Xu x.num ≤ k := x5 hk h.num
 have a2 : Lib.nDigits x.den ≤ k := (ZX hk).2 h.den
 unfold WP
 split <;> omega
noncomputable def eL (G : List (Nat × Obj)) : Tb := (((Xz G).plus 83 (Yq fun s => .str (zp s))).body Tryz.prog [(217, .auto)]).plus 155 TR
theorem nh {G : List (Nat × Obj)} (hG : zO G) : zz Tryz.prog (eL G) := zz.plus (zz.body mixed (zz.plus zr (zQ.mono W1)) _) (rq hG)
def UN : List AV → Option (List zN × AV)
 | [.str a] => some ([.p (yX 300 a)], .i (WP (zP a)))
 | _ => none
theorem mA (G : List (Nat × Obj)) (a : List UInt8) (hr : yX 300 a) :
 let q1 := (↑(lN (zp (Lib.itoa (cI (Rat.den (zP a)))))) : Int); let q2 := (lZ (zp (Lib.itoa (Rat.num (zP a))))); zB [AV.str a] → yX 300 a ∧ kI ∧ (if q1 > q2 then q1 else q2) = WP (zP a) := by
 delta cI kI lZ lN
 dsimp only
 intro hb
 simp only [sS, dS]
 refine ⟨hr, ?_⟩
 rw [Uu, Uu]
 have e2 : Xu ((zP a).den : Int) = Lib.nDigits (zP a).den := by unfold Xu; rw [Int.natAbs_natCast]
 rw [e2]; rfl
theorem KT {G : List (Nat × Obj)} (hG : zO G) (a : List UInt8) (hr : yX 300 a) : zv Tryz.prog G 182 [.str a] (.i (WP (zP a))) :=
 zW (T := eL G) (an := .auto) mixed (nh hG) (Eq.mp (by kernel_rfl) (mA G a hr))
theorem og {G : List (Nat × Obj)} (hG : zO G) : zQ Tryz.prog G 182 UN := by
 intro xs ps r h hp
 unfold UN at h
 split at h
 ·skip
  rename_i a
  cases h
  obtain ⟨q0, -⟩ := ZT hp
  exact weaken (ys := [.str a]) ⟨zV _, trivial⟩ (KT hG a q0)
 ·cases h
structure Gt (x y : Tm) : Prop where
 ra : Jl (zu y.q) (zu x.q)
 rel : y7 y.q x.q = true
 cx : bq 100 x.c
 cy : bq 100 y.c
theorem ki {p q : Rat} (h1 : Xu (p / q).num ≤ 17) (h2 : Lib.nDigits (p / q).den ≤ 17) (h0 : 0 ≤ p / q) : bq 9 (Wx p q) := by
 unfold Wx Gl
 generalize p / q = x at *
 have hx := Rat.num_nonneg.2 h0
 have b1 := X2 x.num
 have e2 : Xu (x.den : Int) = Lib.nDigits x.den := by unfold Xu; rw [Int.natAbs_natCast]
 have b2 := X2 (x.den : Int)
 rw [e2, Int.natAbs_natCast] at b2
 have k1 : x.num.natAbs < 10 ^ 17 := Nat.lt_of_lt_of_le b1 (Nat.pow_le_pow_right (by omega) h1)
 have k2 : x.den < 10 ^ 17 := Nat.lt_of_lt_of_le b2 (Nat.pow_le_pow_right (by omega) h2)
 have k3 : (10 : Nat) ^ 17 = 100000000000000000 := by decide
 have k4 : (10 : Nat) ^ 9 = 1000000000 := by decide
 rw [k3] at k1 k2
 obtain ⟨s1, s2⟩ := xG (n := x.num.toNat) (by omega)
 obtain ⟨t1, t2⟩ := xG (n := x.den) (by omega)
 have r1 : Yx x.num.toNat < 1000000000 := X7 (by omega)
 have r2 : Yx x.den < 1000000000 := X7 (by omega)
 have hd0 : Yx x.den ≠ 0 := fun e => by rw [e] at t2; have := x.den_pos; omega
 exact sr (by omega) (by rw [Int.natAbs_natCast, k4]; exact r1) (by rw [k4]; exact r2)
noncomputable def EU (G : List (Nat × Obj)) : Tb := (((Xz G).plus 123 U7).plus 18 XB).plus 19 SJ
theorem nJ {G : List (Nat × Obj)} (hG : zO G) : zz Tryz.prog (EU G) := zz.plus (zz.plus (zz.plus zr (pF hG)) (wJ hG)) (Ps hG)
def Ru : List AV → Option (List zN × AV)
 | [x_x, x_y] => some ([.b (yo Tm x_x), .b (yo Tm x_y), .p (Gt (yR (α := Tm) x_x) (yR (α := Tm) x_y))], .tup 2 (zw [yD (⟨(yR (α := Tm) x_x).c + (yR (α := Tm) x_y).c * Wx (yR (α := Tm) x_y).q (yR (α := Tm) x_x).q, (yR (α := Tm) x_x).q⟩ : Tm), .i 0]))
 | _ => none
theorem Mm (G : List (Nat × Obj)) (x : Tm) (y : Tm) (hr : Gt x y) :
 let q1 := (bif y7 (zP (zu (Tm.q y))) (zP (zu (Tm.q x))) then zu (Wx (zP (zu (Tm.q y))) (zP (zu (Tm.q x)))) else []); let q2 := (zu (zP (zu (Tm.c y)) * zP q1)); let q3 := (Tm.mk (Tm.c x + Tm.c y * Wx (Tm.q y) (Tm.q x)) (Tm.q x)); zB [AV.agg 2 (zR.enc x), AV.agg 2 (zR.enc y)] → Jl (zu (Tm.q y)) (zu (Tm.q x)) ∧ UU 140 (zu (Tm.c y)) q1 ∧ UU 140 (zu (Tm.c x)) q2 ∧ j2 ∧ (True ∧ 2 = 2 ∧ zu (zP (zu (Tm.c x)) + zP q2) = zu (Tm.c q3) ∧ zu (Tm.q x) = zu (Tm.q q3)) ∧ kI ∧ iZ = iZ := by
 delta kI j2 iZ
 dsimp only
 intro hb
 simp only [sS, dS, zn]
 have hp := hr.ra.fp
 have hx := hr.ra.fq.pos
 have h1 := hr.ra.num
 have h2 := hr.ra.den
 have h3 := hr.ra.pos
 have h4 := hp.pos
 rw [zn] at h3 h4
 rw [zn, zn] at h1 h2
 have hX : 0 ≤ y.q / x.q := by
  rw [Rat.div_def]
  exact Rat.mul_nonneg h4 (Rat.le_of_lt (Rat.inv_pos.2 h3))
 have hv := ki h1 h2 hX
 have hm := PH hr.cy hv
 rw [hr.rel]
 simp only [cond_true, zn]
 exact ⟨hr.ra, ⟨(Zm (by decide) (by decide)).2 (hr.cy.mono (by decide)), (Zm (by decide) (by decide)).2 (hv.mono (by decide))⟩, ⟨(Zm (by decide) (by decide)).2 (hr.cx.mono (by decide)), (Zm (by decide) (by decide)).2 (hm.mono (by decide))⟩, rfl, trivial⟩
theorem jk {G : List (Nat × Obj)} (hG : zO G) (x : Tm) (y : Tm) (hr : Gt x y) : zv Tryz.prog G 240 [yD x, yD y] (.tup 2 (zw [yD (⟨x.c + y.c * Wx y.q x.q, x.q⟩ : Tm), .i 0])) :=
 zW (T := EU G) (an := .auto) mixed (nJ hG) (Eq.mp (by kernel_rfl) (Mm G x y hr))
theorem Kh {G : List (Nat × Obj)} (hG : zO G) : zQ Tryz.prog G 240 Ru := by
 intro xs ps r h hp
 unfold Ru at h
 split at h
 ·skip
  rename_i x_x x_y
  cases h
  obtain ⟨q0, q1, q2, -⟩ := ZT hp
  exact weaken (ys := [yD (yR (α := Tm) x_x), yD (yR (α := Tm) x_y)]) ⟨zD q0, zD q1, trivial⟩ (jk hG (yR (α := Tm) x_x) (yR (α := Tm) x_y) q2)
 ·cases h
end Go.Te

namespace Go.Proofs
open Go.Shelf
def Tryz.pdqCut_ren : Go.Shelf.Ren := ⟨fun | 14 => 241 | 20 => 262 | 21 => 263 | 22 => 264 | 23 => 265 | 24 => 266 | 25 => 267 | 26 => 268 | 27 => 269 | 46 => 283 | 47 => 284 | 48 => 285 | 49 => 286 | 50 => 287 | 15 => 242 | 57 => 292 | 28 => 270 | 29 => 271 | n => n, fun | 24 => 40 | 22 => 41 | 3 => 3 | 25 => 230 | 4 => 4 | 0 => 0 | 46 => 282 | 45 => 281 | 50 => 196 | 66 => 297 | 39 => 168 | 55 => 217 | 70 => 301 | 76 => 308 | 77 => 213 | 53 => 214 | 5 => 5 | 9 => 9 | n => n, fun | n => n⟩
theorem Tryz.pdqCut : Go.Proofs.SlLaysF0.n14 Tryz.prog Tryz.pdqCut_ren := {
 mixed := by kernel_rfl
 f14 := ⟨Tryz.f241.name, by decide, Tryz.func241.trans (congrArg some (by kernel_rfl))⟩
 f15 := Tryz.func242.trans (congrArg some (by kernel_rfl))
 f20 := ⟨Tryz.f262.name, by decide, Tryz.func262.trans (congrArg some (by kernel_rfl))⟩
 f21 := ⟨Tryz.f263.name, by decide, Tryz.func263.trans (congrArg some (by kernel_rfl))⟩
 f22 := ⟨Tryz.f264.name, by decide, Tryz.func264.trans (congrArg some (by kernel_rfl))⟩
 f23 := ⟨Tryz.f265.name, by decide, Tryz.func265.trans (congrArg some (by kernel_rfl))⟩
 f24 := ⟨Tryz.f266.name, by decide, Tryz.func266.trans (congrArg some (by kernel_rfl))⟩
 f25 := ⟨Tryz.f267.name, by decide, Tryz.func267.trans (congrArg some (by kernel_rfl))⟩
 f26 := ⟨Tryz.f268.name, by decide, Tryz.func268.trans (congrArg some (by kernel_rfl))⟩
 f27 := ⟨Tryz.f269.name, by decide, Tryz.func269.trans (congrArg some (by kernel_rfl))⟩
 f28 := Tryz.func270.trans (congrArg some (by kernel_rfl))
 f29 := Tryz.func271.trans (congrArg some (by kernel_rfl))
 f46 := ⟨Tryz.f283.name, by decide, Tryz.func283.trans (congrArg some (by kernel_rfl))⟩
 f47 := Tryz.func284.trans (congrArg some (by kernel_rfl))
 f48 := Tryz.func285.trans (congrArg some (by kernel_rfl))
 f49 := ⟨Tryz.f286.name, by decide, Tryz.func286.trans (congrArg some (by kernel_rfl))⟩
 f50 := ⟨Tryz.f287.name, by decide, Tryz.func287.trans (congrArg some (by kernel_rfl))⟩
 f57 := ⟨Tryz.f292.name, by decide, Tryz.func292.trans (congrArg some (by kernel_rfl))⟩
 t0 := Tryz.underlying0
 a0 := Tryz.isAgg0
 z0 := Tryz.sizeOf0
 v0 := Tryz.zeroValue0
 t3 := Tryz.underlying3
 a3 := Tryz.isAgg3
 z3 := Tryz.sizeOf3
 v3 := Tryz.zeroValue3
 t4 := Tryz.underlying4
 a4 := Tryz.isAgg4
 z4 := Tryz.sizeOf4
 v4 := Tryz.zeroValue4
 t5 := Tryz.underlying5
 a5 := Tryz.isAgg5
 z5 := Tryz.sizeOf5
 v5 := Tryz.zeroValue5
 t9 := Tryz.underlying9
 a9 := Tryz.isAgg9
 z9 := Tryz.sizeOf9
 v9 := Tryz.zeroValue9
 t22 := Tryz.underlying41
 a22 := Tryz.isAgg41
 z22 := Tryz.sizeOf41
 v22 := Tryz.zeroValue41
 t25 := Tryz.underlying230
 a25 := Tryz.isAgg230
 z25 := Tryz.sizeOf230
 v25 := Tryz.zeroValue230
 t39 := Tryz.underlying168
 a39 := Tryz.isAgg168
 z39 := Tryz.sizeOf168
 v39 := Tryz.zeroValue168
 t45 := Tryz.underlying281
 a45 := Tryz.isAgg281
 z45 := Tryz.sizeOf281
 v45 := Tryz.zeroValue281
 t46 := Tryz.underlying282
 a46 := Tryz.isAgg282
 z46 := Tryz.sizeOf282
 v46 := Tryz.zeroValue282
 t50 := Tryz.underlying196
 a50 := Tryz.isAgg196
 z50 := Tryz.sizeOf196
 v50 := Tryz.zeroValue196
 t53 := Tryz.underlying214
 a53 := Tryz.isAgg214
 z53 := Tryz.sizeOf214
 v53 := Tryz.zeroValue214
 t55 := Tryz.underlying217
 a55 := Tryz.isAgg217
 z55 := Tryz.sizeOf217
 v55 := Tryz.zeroValue217
 t66 := Tryz.underlying297
 a66 := Tryz.isAgg297
 z66 := Tryz.sizeOf297
 v66 := Tryz.zeroValue297
 t70 := Tryz.underlying301
 a70 := Tryz.isAgg301
 z70 := Tryz.sizeOf301
 v70 := Tryz.zeroValue301
 t76 := Tryz.underlying308
 a76 := Tryz.isAgg308
 z76 := Tryz.sizeOf308
 v76 := Tryz.zeroValue308
 t77 := Tryz.underlying213
 a77 := Tryz.isAgg213
 z77 := Tryz.sizeOf213
 v77 := Tryz.zeroValue213 }
end Go.Proofs
namespace Go.Te
open Go Go.Sx Go.Proofs Go.RowKit Go.Shelf Go.Sort
set_option maxHeartbeats 4000000
set_option maxRecDepth 100000
theorem OX (n : Nat) (hn : n < 4611686018427387904) (w : World) : Calls Tryz.prog 242 #[.int .u64 (n : Int)] w fun e w' => e = .returned (.int .i64 (Lib.bitLen n : Nat)) ∧ w' = w := by
 have h := Tryz.bits_Len (n : Int) w (by omega) (by omega)
 rwa [Int.toNat_natCast] at h
theorem li : Rc Tryz.prog 209 2 := by
 intro enc hk h1 cf hO g cb blk off cap d w eg hcmp hH hblk hsz
 have e14 : ∀ args w, (callFunc 241 args).run Tryz.prog w = .ok (.enter 241 args) w := enters_of Tryz.func241 (by kernel_rfl) rfl
 have e15 : ∀ args w, (callFunc 242 args).run Tryz.prog w = .ok (.enter 242 args) w := enters_of Tryz.func242 (by kernel_rfl) rfl
 have hlim : Lib.bitLen d.size < 4611686018427387904 := Nat.lt_of_le_of_lt (Lib.bitLen_le d.size 62 (by omega) (by omega)) (by omega)
 have hp : Calls Tryz.prog 241 _ _ _ := AnyQ.pdqsortCmpFunc_all Tryz.pdqCut 2 Tryz.isAgg40 Tryz.sizeOf40 enc cf g cb hO blk off cap d w eg hcmp ⟨hk, h1, hH, hblk⟩ (d.size + 1) 0 d.size (Lib.bitLen d.size) d w (by omega) rfl (SWK.start hH) (Nat.zero_le _) (Nat.le_refl _) hsz hlim (Or.inl rfl)
 have hl := OX d.size hsz w
 have wr : IntKind.u64.wrap (d.size : Int) = d.size := by simp [IntKind.wrap, IntKind.bits, IntKind.signed]; omega
 have h := pdq_sorts (ltOf cf) hO d 0 d.size (Lib.bitLen d.size) true true (Nat.zero_le _) (Nat.le_refl _) (Or.inl rfl)
 have mixed : Tryz.prog.follows .mixedOrders = true := by kernel_rfl
 clear hH hcmp hk h1
 go_enter Tryz.func209, Tryz.ntmps209
 go_wp2_with (first | (go_at_fn 242; refine hl.mono ?_; rintro e w' ⟨rfl, rfl⟩) | (go_at_fn 241; refine hp.mono ?_; rintro e w' ⟨rfl, n, os, rfl⟩))
 go_end0
 exact ⟨rfl, _, n, os, h.1, h.2, rfl⟩
theorem M3 : Re Tryz.prog 209 := by
 intro p cap fv w
 have e14 : ∀ args w, (callFunc 241 args).run Tryz.prog w = .ok (.enter 241 args) w := enters_of Tryz.func241 (by kernel_rfl) rfl
 have e15 : ∀ args w, (callFunc 242 args).run Tryz.prog w = .ok (.enter 242 args) w := enters_of Tryz.func242 (by kernel_rfl) rfl
 have hp : ∀ Qo W, Calls Tryz.prog 241 #[.slice p 0 cap, .int .i64 0, .int .i64 0, .int .i64 Qo, fv] W fun e w' => e = .returned (.tuple #[]) ∧ w' = W := fun Qo W => AnyF.pdqsortCmpFunc_none Tryz.pdqCut p cap Qo fv W
 have hl : ∀ W, Calls Tryz.prog 242 #[.int .u64 0] W fun e w' => e = .returned (.int .i64 (Lib.bitLen 0 : Nat)) ∧ w' = W := fun W => OX 0 (by omega) W
 have mixed : Tryz.prog.follows .mixedOrders = true := by kernel_rfl
 go_enter Tryz.func209, Tryz.ntmps209
 go_wp2_with (first | (go_at_fn 242; refine (hl _).mono ?_; rintro e w' ⟨rfl, rfl⟩) | (go_at_fn 241; refine (hp _ _).mono ?_; rintro e w' ⟨rfl, rfl⟩))
 go_end0
 exact ⟨rfl, rfl⟩
end Go.Te

namespace Go.Te
open Go Go.Sx Go.Proofs Go.Ar Go.RowKit Go.Shelf
set_option maxRecDepth 100000
set_option maxHeartbeats 4000000
abbrev RM : Nat := 99999999
theorem kU {a : zj} (h : zH a = 0) (hn : (zL a).natAbs ≤ 99999999) (hd : zo a ≤ 99999999) : zC a = true := by
 obtain ⟨_, o2, _, _, o5, _, _⟩ := Y1 a
 have hf := (Zr.1 h).1
 have hp := Yz hf
 have e : a = YP (zL a) (zo a) := (wm hf).symm
 obtain ⟨s1, s2, s3, s4, s5⟩ := Wm (zL a) hp
 rw [← e] at s4 s5
 have a1 : Xu (zL a) ≤ 8 := x5 (by decide) (Nat.lt_of_le_of_lt hn (by decide))
 have a2 : Lib.nDigits (zo a) ≤ 8 := (ZX (by decide)).2 (Nat.lt_of_le_of_lt hd (by decide))
 unfold zC
 rw [h, Bool.and_eq_true, Bool.and_eq_true, z8, z8]
 have q1 : (zm (zp a)).length ≤ 8 := by rw [← o5, s4]; exact a1
 have q2 : (z6 (zp a)).length ≤ 8 := by rw [← o2, s5]; split <;> omega
 exact ⟨⟨rfl, by omega⟩, by omega⟩
theorem iH {a : zj} (h : zC a = true) : bq 9 (zP a) := by
 obtain ⟨h1, h2, h3⟩ := yk h
 have k : (10 : Nat) ^ 9 = 1000000000 := by decide
 exact ⟨by rw [(ZE h1).1, k]; omega, by rw [(ZE h1).2, k]; omega⟩
def ry : List AV → Option (List zN × AV)
 | [.str a] => some ([.p (zC a = true)], .tup 2 (zw [.agg 2 (zw [.i (zL a), .i (zo a : Int)]), .b true]))
 | _ => none
theorem L6 : zQ Tryz.prog [] 30 ry := by
 intro xs ps r h hp
 unfold ry at h
 split at h
 ·rename_i a
  cases h
  have q : zC a = true := hp _ List.mem_cons_self
  have := NB a (by have := (yk q).1; exact yQ (k := 9) ⟨this, iH q⟩ (by decide) (by decide))
  rw [q] at this
  exact this
 ·cases h
def Qk : List AV → Option (List zN × AV)
 | [.str a, .str b] => some ([.p (zC a = true), .p (zC b = true)], .tup 2 (zw [.i (Yh (zL a * (zo b : Int)) (zL b * (zo a : Int))), .i 0]))
 | _ => none
theorem jg (a : List UInt8) (b : List UInt8) (ha : zC a = true) (hc : zC b = true) :
 zB [AV.str a, AV.str b] → zC a = true ∧ zC b = true ∧ bF (dK (zL a * (cI (zo b)))) (bF (dK (zL b * (cI (zo a)))) (j2 ∧ (True ∧ kI ∧ Yh (zL a * (cI (zo b))) (zL b * (cI (zo a))) = Yh (zL a * (cI (zo b))) (zL b * (cI (zo a)))) ∧ kI ∧ iZ = iZ)) := by
 delta bF dK cI kI j2 iZ
 intro hb
 simp only [sS, Z2, ZL, zn, dS]
 obtain ⟨a1, a2, a3⟩ := yk ha
 obtain ⟨b1, b2, b3⟩ := yk hc
 have m1 := y9 (a := zL a) (b := (zo b : Int)) ⟨by omega, by omega⟩ ⟨by omega, by omega⟩
 have m2 := y9 (a := zL b) (b := (zo a : Int)) ⟨by omega, by omega⟩ ⟨by omega, by omega⟩
 exact ⟨ha, hc, ⟨by omega, by omega⟩, ⟨by omega, by omega⟩, rfl⟩
theorem Ik (a : List UInt8) (b : List UInt8) (ha : zC a = true) (hc : zC b = true) : zv Tryz.prog [] 12 [.str a, .str b] (.tup 2 (zw [.i (Yh (zL a * (zo b : Int)) (zL b * (zo a : Int))), .i 0])) :=
 zW (T := (T0.plus 30 ry).plus 31 uR) (an := .auto) mixed (zz.plus (zz.plus zr L6) RX) (Eq.mp (by kernel_rfl) (jg a b ha hc))
theorem Im : zQ Tryz.prog [] 12 Qk := by
 intro xs ps r h hp
 unfold Qk at h
 split at h
 ·skip
  rename_i a b
  cases h
  obtain ⟨q0, q1, -⟩ := ZT hp
  exact weaken (ys := [.str a, .str b]) ⟨zV _, zV _, trivial⟩ (Ik a b q0 q1)
 ·cases h
theorem oE {q : Rat} (h1 : q.num.natAbs ≤ 99999999) (h2 : q.den ≤ 99999999) : zC (zu q) = true := by
 obtain ⟨e1, e2⟩ := w6 q
 have k : (10 : Nat) ^ 9 = 1000000000 := by decide
 exact kU (oU (k := 9) (by decide) ⟨by rw [k]; omega, by rw [k]; omega⟩ (by decide)) (by rw [e1]; exact h1) (by rw [e2]; exact h2)
def Mr (r : Nat → AV) : Bool := zR.ok (α := Tm) r && (Nat.ble (zR.dec (α := Tm) r).q.num.natAbs RM && Nat.ble (zR.dec (α := Tm) r).q.den RM)
def Sk (r s : Nat → AV) : Int := WX (zR.dec (α := Tm) r).q (zR.dec (α := Tm) s).q
theorem jY (x : Tm) (y : Tm) (h1 : zC (zu x.q) = true) (h2 : zC (zu y.q) = true) :
 zB [AV.agg 2 (zR.enc x), AV.agg 2 (zR.enc y)] → zC (zu (Tm.q x)) = true ∧ zC (zu (Tm.q y)) = true ∧ kI ∧ Yh (zL (zu (Tm.q x)) * (cI (zo (zu (Tm.q y))))) (zL (zu (Tm.q y)) * (cI (zo (zu (Tm.q x))))) = WX (Tm.q x) (Tm.q y) := by
 delta cI kI
 intro hb
 simp only [sS, Z2, ZL, zn, dS]
 refine ⟨h1, h2, ?_⟩
 have := lA (yk h1).1 (yk h2).1
 rw [zn, zn] at this
 exact this
theorem ir (x : Tm) (y : Tm) (h1 : zC (zu x.q) = true) (h2 : zC (zu y.q) = true) : zv Tryz.prog [] 210 [yD x, yD y] (.i (WX x.q y.q)) :=
 zW (T := T0.plus 12 Qk) (an := .auto) mixed (zz.plus zr Im) (Eq.mp (by kernel_rfl) (jY x y h1 h2))
theorem LS : kX Tryz.prog 2 210 Mr Sk where
 pos := by decide
 ent := enters_of Tryz.func210 (by kernel_rfl) rfl
 call := fun r s hr hs => by
  unfold Mr at hr hs
  rw [Bool.and_eq_true, Bool.and_eq_true] at hr hs
  have ar : yo Tm (.agg 2 r) = true := hr.1
  have a2 : yo Tm (.agg 2 s) = true := hs.1
  exact weaken (ys := [_, _]) ⟨zD ar, zD a2, trivial⟩ (ir _ _ (oE (Nat.le_of_ble_eq_true hr.2.1) (Nat.le_of_ble_eq_true hr.2.2)) (oE (Nat.le_of_ble_eq_true hs.2.1) (Nat.le_of_ble_eq_true hs.2.2)))
 swo := fun els f => by
  have key : ∀ a b : Rat, WX a b < 0 ↔ a < b := fun a b => by
   unfold WX
   split
   ·rename_i h; exact ⟨fun _ => h, fun _ => by decide⟩
   ·rename_i h
    split
    ·exact ⟨fun h => absurd h (by decide), fun e => absurd e h⟩
    ·exact ⟨fun h => absurd h (by decide), fun e => absurd e h⟩
  refine ⟨fun x => ?_, fun x y z h1 h2 => ?_, fun x y z h1 h2 => ?_⟩ <;>
   simp only [ltOf, Sk, decide_eq_true_eq, decide_eq_false_iff_not, key, Rat.not_lt] at *
  ·exact Rat.le_refl
  ·grind
  ·grind
def JH := rA 2 210 Mr Sk
theorem NR (G : List (Nat × Obj)) : UW Tryz.prog G 209 JH :=
 Ny (enters_of Tryz.func209 (by kernel_rfl) rfl) M3 li LS G
end Go.Te

namespace Go.Te
open Go Go.Sx Go.Proofs Go.Ar Go.RowKit
set_option maxRecDepth 100000
set_option maxHeartbeats 4000000
structure uM (l : List Tm) : Prop where
 len : l.length ≤ 256
 cs : ∀ t ∈ l, bq 60 t.c
 qs : ∀ t ∈ l, t.q ≠ 0 → Lb (zu t.q)
 root : inT RM l
 cls : ∀ k, ∀ x ∈ wW (XG (l.take k)), bq 60 x.c
 out : (YA l).length ≤ 16
def I6 (t : TypeId) (l : List Tm) : OB := .arr t 2 l.length fun i j => zR.enc (l.getD i zR.dflt) j
def GD : OB → List Tm
 | .arr _ _ n els => (List.range n).map fun i => zR.dec (els i)
 | _ => []
def tY : AV → Nat
 | .np k _ => k
 | _ => 0
def fy : AV → Nat
 | .fn _ _ first _ _ => tY (first 0)
 | _ => 0
noncomputable def Gk (G : List (Nat × Obj)) : Tb := Tb.own1 ((((((((Xz G).plus 29 uV).plus 102 (Yq fun s => .b (zJ s))).plus 184 UP).plus 182 UN).plus 18 XB).plus 123 U7).plus 240 Ru |>.plus 12 Sb) 209 JH
theorem QC {G : List (Nat × Obj)} (hG : zO G) : zz Tryz.prog (Gk G) := zz.own1 (zz.plus (zz.plus (zz.plus (zz.plus (zz.plus (zz.plus (zz.plus (zz.plus zr (TP hG)) (zQ.mono RR)) (oV hG)) (og hG)) (wJ hG)) (pF hG)) (Kh hG)) (pJ hG)) (NR G)
def cellAt (B : OB) (i : Nat) : AV :=
 match B with
 | .box _ _ cs => cs i
 | _ => .junk
def R6 (x y : AV) : Tm := ⟨zP (AV.bytes x), zP (AV.bytes y)⟩
def Yk (x t : Tm) : Tm × Tm := if t.q < x.q then (t, x) else (x, t)
theorem ZQ (a b : zj) : R6 (.str a) (.str b) = ⟨zP a, zP b⟩ := rfl
theorem xi (t : TypeId) (l : List Tm) : GD (OB.arr t 2 l.length fun i j => zR.enc (l.getD i zR.dflt) j) = l := by
 have e : ((List.range l.length).map fun i => zR.dec (α := Tm) (fun j => zR.enc (l.getD i zR.dflt) j)) = l := by
  apply List.ext_getElem
  ·simp
  ·intro i h1 h2
   rw [List.getElem_map, List.getElem_range, List.getD_eq_getElem?_getD, List.getElem?_eq_getElem h2]
   exact YR.dec _
 exact e
def K8 : yV := .two .auto (.two .auto (.two (.one (.two .auto (.two .auto (.two .auto (.two .auto (.two .auto
 (.join (Tm × Tm) (fun σ _ => [(0, σ.tm 0), (5, σ.tm 5), (6, σ.tm 6), (10, σ.tm 10)]) (fun σ z => [(tY (σ.tm 6), .box 228 2 (zR.enc z.1)), (tY (σ.tm 10), .box 228 2 (zR.enc z.2))]) 0
  (fun σ z => z = Yk (R6 (cellAt (σ.bl (tY (σ.tm 6))) 0) (cellAt (σ.bl (tY (σ.tm 6))) 1)) (R6 (cellAt (σ.bl (tY (σ.tm 10))) 0) (cellAt (σ.bl (tY (σ.tm 10))) 1))) .auto .auto))))))) .auto))
def jP  : yV :=
 .two .auto (.two (.two .auto (.one (.loop Nat (fun σ z => [(0, σ.tm 0), (3, σ.tm 3), (17, σ.tm 17), (18, σ.tm 18), (19, .i (z : Int))]) (fun σ z => []) 0 (fun σ z => z ≤ (GD (σ.bl (yC (σ.tm 17)))).length ∧ ∀ j, j < z → y7 (yR (α := Tm) (σ.tm 1)).q ((GD (σ.bl (yC (σ.tm 17)))).getD j zR.dflt).q = false) (fun σ z => (GD (σ.bl (yC (σ.tm 17)))).length - z) K8))) .auto)
def ZW (l : List Tm) (k : Nat) : List Tm := wW (XG (l.take k))
def Kw : yV := .two .auto (.two .auto (.two (.one (.two .auto (.two .auto (.two .auto
 (.join (Rat × Rat) (fun σ z => [(1, σ.tm 1), (6, σ.tm 6), (11, σ.tm 11), (12, σ.tm 12), (13, σ.tm 13), (7, .str (zu z.1)), (8, .str (zu z.2)), (9, .i 0)]) (fun _ _ => []) 0
  (fun σ z => z.1 = nK (R6 (cellAt (σ.bl (tY (σ.tm 6))) 0) (cellAt (σ.bl (tY (σ.tm 6))) 1)).q ∧ z.2 = nL (R6 (cellAt (σ.bl (tY (σ.tm 6))) 0) (cellAt (σ.bl (tY (σ.tm 6))) 1)).q) .auto .auto))))) .auto))
def KC (l : List Tm) : yV :=
 .two .auto (.two (.two .auto (.one (.loop Nat (fun σ z => [(1, σ.tm 1), (11, σ.tm 11), (12, σ.tm 12), (13, .i (z : Int))]) (fun σ z => [(fy (σ.tm 1), .box 225 1 fun _ => .ns σ.nb 0 (ZW l z).length), (σ.nb, I6 228 (ZW l z))]) 1 (fun σ z => z ≤ l.length) (fun σ z => l.length - z) Kw))) .auto)
def YX (l : List Tm) (k : Nat) : List Tm := ((ZW l l.length).take k).filter fun t => decide (t.c ≠ 0)
def H0 (l : List Tm) : yV :=
 .two .auto (.two .auto (.two (.two .auto (.one (.loop Nat (fun σ z => [(0, σ.tm 0), (16, σ.tm 16), (17, σ.tm 17), (18, .i (z : Int))]) (fun σ z => []) 0 (fun σ z => z ≤ l.length) (fun σ z => l.length - z) .auto))) (.two .auto (.two .auto (.two .auto (.two (.two .auto (.one (.loop Nat (fun σ z => [(45, σ.tm 45), (46, σ.tm 46), (10, .ns σ.nb 0 (YX l z).length), (47, .i (z : Int))]) (fun σ z => [(σ.nb, I6 40 (YX l z))]) 1 (fun σ z => z ≤ (ZW l l.length).length) (fun σ z => (ZW l l.length).length - z) .auto))) .auto))))))
theorem YU (x : Tm) : yR (AV.agg 2 fun i => zR.enc x i) = x := Um x
theorem yx (x : Tm) : yo Tm (AV.agg 2 fun i => zR.enc x i) = true := Vg x
theorem UQ (a b : Rat) : WX a b < 0 ↔ a < b := by
 unfold WX
 split
 ·rename_i h; exact ⟨fun _ => h, fun _ => by decide⟩
 ·rename_i h
  split
  ·exact ⟨fun h => absurd h (by decide), fun e => absurd e h⟩
  ·exact ⟨fun h => absurd h (by decide), fun e => absurd e h⟩
theorem RB (l : List Tm) (x : Tm) : XG (l ++ [x]) = XG l ++ if x.c = 0 ∨ x.q = 0 then [] else [ru x] := by
 unfold XG
 rw [List.filter_append, List.map_append]
 congr 1
 by_cases h1 : x.c = 0
 ·rw [if_pos (.inl h1)]; simp [h1]
 ·by_cases h2 : x.q = 0
  ·rw [if_pos (.inr h2)]; simp [h2]
  ·rw [if_neg (by simp [h1, h2])]; simp [h1, h2]
theorem SQ {l : List Tm} {z : Nat} (h : z < l.length) : l.take (z + 1) = l.take z ++ [l.getD z zR.dflt] := Np (d := zR.dflt) h
theorem nE {l : List Tm} {z : Nat} (h : z < l.length) (h0 : (l.getD z zR.dflt).c = 0 ∨ (l.getD z zR.dflt).q = 0) : ZW l (z + 1) = ZW l z := by
 unfold ZW
 rw [SQ h, RB, if_pos h0, List.append_nil]
theorem NT {l : List Tm} {z : Nat} (h : z < l.length) (h0 : ¬((l.getD z zR.dflt).c = 0 ∨ (l.getD z zR.dflt).q = 0)) : ZW l (z + 1) = vo (ZW l z) (ru (l.getD z zR.dflt)) := by
 unfold ZW
 rw [SQ h, RB, if_neg h0, sj]
theorem ot (t : Tm) : ru t = ⟨t.c * nK t.q, nL t.q⟩ := rfl
theorem m9 : nK 1 = 1 ∧ nL 1 = 1 := by decide +kernel
theorem Gu {q : Rat} (h : Lb (zu q)) : 0 < q ∧ mQ q < 10 ^ 17 ∧ bq 17 (nK q) := by
 have hp := h.pos
 have hl := h.len
 rw [zn] at hp hl
 have hn : 0 < q.num := by
  have := Rat.num_nonneg.2 (Rat.le_of_lt hp)
  have h2 : q.num ≠ 0 := fun e => (Rat.ne_of_gt hp) (Rat.num_eq_zero.1 e)
  omega
 have b1 := X2 q.num
 have b2 := X2 (q.den : Int)
 have e2 : Xu (q.den : Int) = Lib.nDigits q.den := by unfold Xu; rw [Int.natAbs_natCast]
 rw [e2, Int.natAbs_natCast] at b2
 have b3 : q.num.natAbs * q.den < 10 ^ 17 := by
  refine Nat.lt_of_lt_of_le (Nat.mul_lt_mul'' b1 b2) ?_
  rw [← Nat.pow_add]
  exact Nat.pow_le_pow_right (by omega) hl
 have em : mQ q = q.num.natAbs * q.den := by unfold mQ; rw [show q.num.toNat = q.num.natAbs by omega]
 rw [← em] at b3
 have hd : q.den < 10 ^ 17 := Nat.lt_of_lt_of_le b2 (Nat.pow_le_pow_right (by omega) (by omega))
 exact ⟨hp, b3, sr q.den_pos (by rw [Int.natAbs_natCast]; exact Nat.lt_of_le_of_lt (MI (Px hp)).2.2 b3) hd⟩
theorem WI {R : Nat} {x : Tm} (h : yw R x) (hR : R < 100000000) : bq 8 x.q ∧ 0 < x.q ∧ x.q.den = 1 ∧ x.q.num.natAbs ≤ R := by
 obtain ⟨r, e, h0, h1⟩ := h
 have k : (10 : Nat) ^ 8 = 100000000 := by decide
 rw [e]
 refine ⟨⟨by rw [Rat.num_natCast, Int.natAbs_natCast, k]; omega, by rw [Rat.den_natCast, k]; omega⟩, ?_, Rat.den_natCast r, by rw [Rat.num_natCast, Int.natAbs_natCast]; exact h1⟩
 exact Rat.lt_of_le_of_ne Rat.natCast_nonneg fun e => by have := Rat.natCast_eq_zero_iff.1 e.symm; omega
theorem pn {x y : Tm} (hx : yw RM x) (hy : yw RM y) : Jl (zu x.q) (zu y.q) := by
 obtain ⟨b1, p1, d1, n1⟩ := WI hx (by decide)
 obtain ⟨b2, p2, d2, n2⟩ := WI hy (by decide)
 have key : bq 8 (x.q / y.q) := by
  obtain ⟨r, e, h0, h1⟩ := hx
  obtain ⟨s, e2, g0, g1⟩ := hy
  have k : (10 : Nat) ^ 8 = 100000000 := by decide
  have : x.q / y.q = mkRat (r : Int) s := by rw [e, e2, Rat.mkRat_eq_div]; rfl
  rw [this]
  exact sr g0 (by rw [Int.natAbs_natCast, k]; exact Nat.lt_of_le_of_lt h1 (by decide)) (by rw [k]; exact Nat.lt_of_le_of_lt g1 (by decide))
 refine ⟨⟨(Zm (by decide) (by decide)).2 (b1.mono (by decide)), ?_⟩, ⟨(Zm (by decide) (by decide)).2 (b2.mono (by decide)), ?_⟩, ?_, ?_, ?_⟩
 ·rw [zn]; exact Rat.le_of_lt p1
 ·rw [zn]; exact Rat.le_of_lt p2
 ·rw [zn]; exact p2
 ·rw [zn, zn]; exact Nat.le_trans (x5 (k := 8) (by decide) key.num) (by decide)
 ·rw [zn, zn]; exact Nat.le_trans ((ZX (k := 8) (by decide)).2 key.den) (by decide)
theorem mb {x y : Tm} (hx : yw RM x) (hy : yw RM y) (h : y7 x.q y.q = true) : y7 y.q x.q = true := by
 cases hb : y7 y.q x.q with
 | true => rfl
 | false =>
  have := (UO hx hy (by decide)).2 ((UO hy hx (by decide)).1 hb).symm
  rw [h] at this
  cases this
theorem K3 (x t : Tm) : wu x t = ⟨(Yk x t).1.c + (Yk x t).2.c * Wx (Yk x t).2.q (Yk x t).1.q, (Yk x t).1.q⟩ := by
 unfold wu Yk
 split <;> rfl
theorem OM {l : List Tm} {z : Nat} (h : z < (ZW l l.length).length) : YX l (z + 1) = YX l z ++ if ((ZW l l.length).getD z zR.dflt).c = 0 then [] else [(ZW l l.length).getD z zR.dflt] := by
 unfold YX
 rw [SQ h, List.filter_append]
 congr 1
 generalize (ZW l l.length).getD z zR.dflt = x
 by_cases h1 : x.c = 0
 ·rw [if_pos h1]; simp [h1]
 ·rw [if_neg h1]; simp [h1]
theorem qv (l : List Tm) : ZW l l.length = wW (XG l) := by unfold ZW; rw [List.take_length]
theorem LI (l : List Tm) : YX l (ZW l l.length).length = xF l := by
 unfold YX xF
 rw [List.take_length, qv]
theorem yc {l : List Tm} {i : Nat} (h : i < l.length) : l.getD i zR.dflt ∈ l := by
 rw [List.getD_eq_getElem?_getD, List.getElem?_eq_getElem h]
 exact List.getElem_mem h
theorem Lu (l : List Tm) (x : Tm) (i j : Nat) (hi : i < l.length + 1) : zi (if i < l.length then zR.enc (l.getD i zR.dflt) j else zw [AV.str (zu x.c), AV.str (zu x.q)] j) (zR.enc ((l ++ [x]).getD i zR.dflt) j) := by
 by_cases h : i < l.length
 ·rw [if_pos h, show (l ++ [x]).getD i zR.dflt = l.getD i zR.dflt by simp [List.getD_eq_getElem?_getD, List.getElem?_append_left h]]
  exact zV _
 ·obtain rfl : i = l.length := by omega
  rw [if_neg h, show (l ++ [x]).getD l.length zR.dflt = x by simp [List.getD_eq_getElem?_getD]]
  exact zV _
theorem Fg (l : List Tm) (k : Nat) (x : Tm) (hk : k < l.length) (i j : Nat) (hj : j < 2) : zi (if i = k ∧ j < 2 then (if j < 2 then zR.enc x j else ZC (Value.agg #[Value.string ⟨#[]⟩, Value.string ⟨#[]⟩]) j) else zR.enc (l.getD i zR.dflt) j) (zR.enc ((l.set k x).getD i zR.dflt) j) := by
 by_cases e : i = k
 ·subst e
  rw [if_pos ⟨rfl, hj⟩, if_pos hj, show (l.set i x).getD i zR.dflt = x by simp [List.getD_eq_getElem?_getD, hk]]
  exact zV _
 ·rw [if_neg fun h => e h.1, show (l.set k x).getD i zR.dflt = l.getD i zR.dflt by simp [List.getD_eq_getElem?_getD, List.getElem?_set_ne (Ne.symm e)]]
  exact zV _
noncomputable def e7 (G : List (Nat × Obj)) (l : List Tm) : Tb := ((Gk G).body Tryz.prog [(208, jP)]).body Tryz.prog [(207, KC l)]
theorem Nq {G : List (Nat × Obj)} (hG : zO G) (l : List Tm) : zz Tryz.prog (e7 G l) := zz.body mixed (zz.body mixed (QC hG) _) _
theorem Lt {l : List Tm} (h : uM l) (z : Nat) : (ZW l z).length ≤ l.length ∧ ∀ x ∈ ZW l z, yw RM x ∧ bq 60 x.c := by
 obtain ⟨_, g2, _, g4, _⟩ := Vn (R := RM) (by decide) (l := l.take z) fun t ht => h.root t (List.mem_of_mem_take ht)
 exact ⟨Nat.le_trans g4 (by rw [List.length_take]; omega), fun x hx => ⟨g2 x hx, h.cls z x hx⟩⟩
theorem Jt {l : List Tm} (h : uM l) {p : List Nat} (hp : p.Perm (List.range (xF l).length)) (hs : p.Pairwise fun i j => ¬ Sk (fun k => zR.enc ((xF l).getD j zR.dflt) k) (fun k => zR.enc ((xF l).getD i zR.dflt) k) < 0) :
  YA l = p.map fun i => (xF l).getD i zR.dflt := by
 obtain ⟨g1, g2, _, _, _⟩ := Vn (R := RM) (by decide) h.root
 have e : ((List.range (xF l).length).map fun i => (xF l).getD i zR.dflt) = xF l := by
  apply List.ext_getElem
  ·simp
  ·intro i h1 h2
   rw [List.getElem_map, List.getElem_range, List.getD_eq_getElem?_getD, List.getElem?_eq_getElem h2]
   rfl
 have hpp := hp.map fun i => (xF l).getD i zR.dflt
 rw [e] at hpp
 refine (py (R := RM) (l := xF l) (fun x hx => g2 x (List.mem_filter.1 hx).1) (g1.filter _) hpp ?_).symm
 rw [List.pairwise_map]
 refine hs.imp fun {i j} hij => ?_
 have e1 : ∀ x : Tm, zR.dec (α := Tm) (fun k => zR.enc x k) = x := fun x => YR.dec x
 unfold Sk at hij
 rw [e1, e1, UQ] at hij
 exact Rat.not_lt.1 hij
def qa : List AV → Option (List zN × AV)
 | [x_l] => some ([.b (ze Tm x_l), .p (uM (Zn (α := Tm) x_l))], .tup 2 (zw [Zl (YA (Zn (α := Tm) x_l)), .i 0]))
 | _ => none
theorem Hj (G : List (Nat × Obj)) (l : List Tm) (h : uM l) :
 let q2 := (True ∧ Value.slice (Xd Addr) 0 0 = Value.slice (Xd Addr) 0 0 ∧ lN (YA l) = 0); let q1 := (j2 ∧ q2 ∧ kI ∧ (4 : Int) = iZ); let q3 := (AV.xl false 2 (lN l) fun i j => zR.enc (gD l i zR.dflt) j); let q4 := (kI ∧ (lZ l) = (lZ l)); let q7 := (AV.fn (Fn.func 208) 1 (fun i => Option.getD [AV.np (nat_lit 0) 0][i]? AV.junk) 0 fun (i : Nat) => AV.junk); let q12 := (ByteArray.data (ByteArray.mk #[(48 : UInt8)])); let q15 := (ByteArray.data (ByteArray.mk #[(49
 : UInt8)])); zB [AV.xl false 2 (lN l) fun i j => zR.enc (gD l i zR.dflt) j] → zZ (zM (256 : Int) (lZ l)) q1 ((∃ (z : Nat), (z ≤ lN l ∧ zi q3 q3 ∧ zi q3 q3 ∧ q4 ∧ kI ∧ iZ = (cI z)) ∧ True) ∧ ∀ (z : Nat), let q5 := (gD l (Int.toNat (cI z)) zR.dflt); let q6 := (zu (Tm.q q5)); z ≤ lN l → zZ (zM (cI z) (lZ l)) (bF (DB.db (iZ ≤ (cI z) ∧ (cI z) < (lZ l))) (yX 300 (zu (Tm.c q5)) ∧ yX 300 q6 ∧ zZ (zJ q6) (2 = List.length
 [AV.junk, AV.junk] ∧ q2 ∧ kI ∧ (2 : Int) = iZ) (bF (dK ((cI z) + iO)) (∃ (z' : Nat), ((z' ≤ lN l ∧ lN l - z' < lN l - z) ∧ zi q3 q3 ∧ zi q3 q3 ∧ q4 ∧ kI ∧ (cI z) + iO = (cI z')) ∧ True)))) ((∃ (z : Nat), (z ≤ lN l ∧ zi q7 q7 ∧ zi q3 q3 ∧ q4 ∧ kI ∧ iZ = (cI z)) ∧ ((225 : TypeId) = 225 ∧ 1 = 1 ∧ some (Xd Nat) = some (Xd Nat) ∧ 0 = 0 ∧ lN (ZW l z) = 0) ∧ lN (ZW l z) = 0) ∧ ∀ (z : Nat), let q11 := (gD l
 (Int.toNat (cI z)) zR.dflt); let q10 := (Tm.c q11); let q9 := (zu q10 == Array.toList q12); let q8 := (!zS false q9 || zS false q9); let q13 := (Tm.q q11); let q14 := (dK ((cI z) + iO)); let q16 := (zu q13); let q18 := (zu q10); let q17 := (Tm.q (R6 (AV.str q18) (AV.str q16))); let q19 := (kI ∧ (cI z) = (cI z)); let q20 := (zP q16); let q21 := ((225 = 225 ∧ 1 = 1 ∧ nat_lit 1 = 1 ∧ 0 = 0 ∧ lN (ZW l z) = lN (ZW l z)) ∧ 228 = 228 ∧ 2 = 2 ∧ lN (ZW l z) = lN (ZW l z) ∧ ∀ (i j : Nat), let
 q22 := (zR.enc (gD (ZW l z) i zR.dflt) j); i < lN (ZW l z) → j < 2 → zi q22 q22); let q23 := (GD (OB.arr (228 : TypeId) 2 (lN (ZW l z)) fun i j => zR.enc (gD (ZW l z) i zR.dflt) j)); let q27 := (nat_lit 1 = 1 ∧ 0 = 0 ∧ lN (ZW l z) = lN (ZW l z)); let q28 := (kI ∧ (lZ (ZW l z)) = (lZ (ZW l z))); let q29 := (q21 ∧ 40 = 40 ∧ 2 = 2 ∧ zu q10 = zu q10 ∧ zu q13 = zu q13); let q45 := (DB.db ((lN (ZW l z) + 1) * 32 ≤ 140737488355328)); z ≤ lN l → zZ
 (zM (cI z) (lZ l)) (bF (DB.db (iZ ≤ (cI z) ∧ (cI z) < (lZ l))) (bF q8 (bF q8 (bF (!!zu q10 == Array.toList q12 || zS false q9) (zZ (bif zu q10 == Array.toList q12 then true else zu q13 == Array.toList q12) (bF q14 (∃ (z' : Nat), ((z' ≤ lN l ∧ lN l - z' < lN l - z) ∧ zi q7 q7 ∧ zi q3 q3 ∧ q4 ∧ kI ∧ (cI z) + iO = (cI z')) ∧ (225 = 225 ∧ 1 = 1 ∧ nat_lit 1 = 1 ∧ 0 = 0 ∧ lN (ZW l z') = lN (ZW l z)) ∧ 228 = 228 ∧ 2 = 2 ∧ List.length
 (ZW l z') = lN (ZW l z) ∧ ∀ (i j : Nat), i < lN (ZW l z) → j < 2 → zi (zR.enc (gD (ZW l z) i zR.dflt) j) (zR.enc (gD (ZW l z') i zR.dflt) j))) (zZ (!zu q13 == Array.toList q15) (Lb q16 ∧ ∃ (z_1 : Rat × Rat), ((Prod.fst z_1 = nK q17 ∧ Prod.snd z_1 = nL q17) ∧ zi q7 q7 ∧ (nat_lit 2 = 2 ∧ 0 = 0) ∧ zi q3 q3 ∧ q4 ∧ q19 ∧ zu (nK q20) = zu (Prod.fst z_1) ∧ zu (nL q20) = zu (Prod.snd z_1) ∧ kI ∧ iZ = iZ) ∧ q21 ∧ 40 = 40 ∧ 2 = 2 ∧ zu q10 = zu q10 ∧ zu q13 = zu q13) (∃ (z_1 : Rat × Rat), ((Prod.fst
 z_1 = nK q17 ∧ Prod.snd z_1 = nL q17) ∧ zi q7 q7 ∧ (nat_lit 2 = 2 ∧ 0 = 0) ∧ zi q3 q3 ∧ q4 ∧ q19 ∧ Array.toList q15 = zu (Prod.fst z_1) ∧ zu q13 = zu (Prod.snd z_1) ∧ kI ∧ iZ = iZ) ∧ q21 ∧ 40 = 40 ∧ 2 = 2 ∧ zu q10 = zu q10 ∧ zu q13 = zu q13) ∧ ∀ (z_1 : Rat × Rat), let q26 := (zP q18 * zP (zu (Prod.fst z_1))); let q25 := (zu q26); let q24 := (Tm.q (yR (AV.agg 2 (zw [AV.str q25, AV.str (zu (Prod.snd z_1))])))); let q37 := (R6 (AV.str q25) (AV.str (zu (Prod.snd z_1)))); let q39 := (q29 ∧ 40 = 40 ∧ 2 = 2 ∧ zu q26 = zu q26 ∧ zu
 (Prod.snd z_1) = zu (Prod.snd z_1)); let q46 := (bF q14 (∃ (z' : Nat), ((z' ≤ lN l ∧ lN l - z' < lN l - z) ∧ zi q7 q7 ∧ zi q3 q3 ∧ q4 ∧ kI ∧ (cI z) + iO = (cI z')) ∧ (225 = 225 ∧ 1 = 1 ∧ nat_lit 1 = 1 ∧ 0 = 0 ∧ lN (ZW l z') = lN (ZW l z) + 1) ∧ (228 : TypeId) = 228 ∧ 2 = 2 ∧ lN (ZW l z') = lN (ZW l z) + 1 ∧ ∀ (i j : Nat), i < lN (ZW l z) + 1 → j < 2 → zi (if i < lN (ZW l z) then zR.enc (gD (ZW l z) i zR.dflt) j else Sx.rowAt [zw [AV.str q25, AV.str
 (zu (Prod.snd z_1))]] (i - lN (ZW l z)) j) (zR.enc (gD (ZW l z') i zR.dflt) j))); Prod.fst z_1 = nK q17 ∧ Prod.snd z_1 = nL q17 → (zS false (iZ != iZ) = true → yX 300 (zu (Prod.snd z_1))) ∧ zZ (bif iZ != iZ then true else zM (90 : Int) (WP (zP (zu (Prod.snd z_1))))) q1 (UU 140 q18 (zu (Prod.fst z_1)) ∧ (∃ (z_2 : Nat), ((z_2 ≤ lN q23 ∧ ∀ (j : Nat), j < z_2 → y7 q24 (Tm.q (gD q23 j zR.dflt)) = false) ∧ (nat_lit 0 = 0 ∧ 0 = 0) ∧ (nat_lit 3 = 3 ∧ 0 = 0) ∧ q27 ∧ q28 ∧ kI ∧ iZ = (↑z_2
 : Int)) ∧ q29 ∧ 40 = 40 ∧ 2 = 2 ∧ zu q26 = zu q26 ∧ zu (Prod.snd z_1) = zu (Prod.snd z_1)) ∧ ∀ (z_2 : Nat), let q30 := (DB.db (iZ ≤ (cI z_2) ∧ (cI z_2) < (lZ (ZW l z)))); let q33 := (gD (ZW l z) (0 + Int.toNat (cI z_2)) zR.dflt); let q32 := (Tm.q q33); let q31 := (zu q32); let q34 := (zP q31); let q36 := (Tm.c q33); let q35 := (R6 (AV.str (zu q36)) (AV.str q31)); let q38 := (kI ∧ (cI z_2) = (cI z_2)); (z_2 ≤ lN q23 ∧ ∀ (j : Nat), j < z_2 → y7 q24 (Tm.q (gD q23 j zR.dflt)) = false) → zZ
 (zM (cI z_2) (lZ (ZW l z))) (bF q30 (Jl (zu (Prod.snd z_1)) q31 ∧ zZ (!y7 (zP (zu (Prod.snd z_1))) q34) (bF (dK ((cI z_2) + iO)) (∃ (z' : Nat), (((z' ≤ lN q23 ∧ ∀ (j : Nat), j < z' → y7 q24 (Tm.q (gD q23 j zR.dflt)) = false) ∧ lN q23 - z' < lN q23 - z_2) ∧ (nat_lit 0 = 0 ∧ 0 = 0) ∧ (nat_lit 3 = 3 ∧ 0 = 0) ∧ q27 ∧ q28 ∧ kI ∧ (cI z_2) + iO = (cI z')) ∧ q29 ∧ 40 = 40 ∧ 2 = 2 ∧ zu q26 = zu q26 ∧ zu (Prod.snd z_1) = zu (Prod.snd z_1))) ((UU 140
 (zu (Prod.snd z_1)) q31 ∧ zZ (zM (WX (zP (zu (Prod.snd z_1))) q34) iZ) (∃ (z_3 : Tm × Tm), (z_3 = Yk q35 q37 ∧ (nat_lit 0 = 0 ∧ 0 = 0) ∧ q38 ∧ (nat_lit 4 = 4 ∧ 0 = 0) ∧ nat_lit 5 = 5 ∧ 0 = 0) ∧ (q39 ∧ (228 : TypeId) = 228 ∧ 2 = 2 ∧ zu q26 = zu (Tm.c (Prod.fst z_3)) ∧ zu (Prod.snd z_1) = zu (Tm.q (Prod.fst z_3))) ∧ (228 : TypeId) = 228 ∧ 2 = 2 ∧ zu q36 = zu (Tm.c (Prod.snd z_3)) ∧ zu q32 = zu (Tm.q (Prod.snd z_3))) (∃ (z_3 : Tm × Tm), (z_3 = Yk q35 q37 ∧ (nat_lit 0 = 0 ∧ 0 = 0) ∧ q38 ∧ (nat_lit 4 = 4 ∧ 0 = 0) ∧ nat_lit 5 = 5 ∧ 0 = 0) ∧ (q39 ∧ (228 :
 TypeId) = 228 ∧ 2 = 2 ∧ zu q36 = zu (Tm.c (Prod.fst z_3)) ∧ zu q32 = zu (Tm.q (Prod.fst z_3))) ∧ (228 : TypeId) = 228 ∧ 2 = 2 ∧ zu q26 = zu (Tm.c (Prod.snd z_3)) ∧ zu (Prod.snd z_1) = zu (Tm.q (Prod.snd z_3)))) ∧ ∀ (z_3 : Tm × Tm), let q40 := (AV.agg 2 fun (i : Nat) => zR.enc (Prod.fst z_3) (0 + i)); let q41 := (AV.agg 2 fun (i : Nat) => zR.enc (Prod.snd z_3) (0 + i)); z_3 = Yk q35 q37 → bF (yo Tm q40) (bF (yo Tm q41) (Gt (yR q40) (yR q41) ∧ bF q30 (bF q14 (∃ (z' : Nat), ((z' ≤ lN l ∧ lN l - z' < lN l - z) ∧ zi q7 q7 ∧
 zi q3 q3 ∧ q4 ∧ kI ∧ (cI z) + iO = (cI z')) ∧ (225 = 225 ∧ 1 = 1 ∧ nat_lit 1 = 1 ∧ 0 = 0 ∧ lN (ZW l z') = lN (ZW l z)) ∧ 228 = 228 ∧ 2 = 2 ∧ lN (ZW l z') = lN (ZW l z) ∧ ∀ (i j : Nat), let q42 := (yR (AV.agg 2 fun (i : Nat) => zR.enc (Prod.fst z_3) (0 + i))); let q43 := (yR (AV.agg 2 fun (i : Nat) => zR.enc (Prod.snd z_3) (0 + i))); let q44 := (Tm.q q42); i < lN (ZW l z) → j < 2 → zi (if i = 0 + Int.toNat (cI z_2) ∧ 0 ≤ j ∧ j < 2 then if 0 ≤ 0 + (j - 0) ∧ 0 + (j - 0) < 2 then zR.enc (Tm.mk (Tm.c q42
 + Tm.c q43 * Wx (Tm.q q43) q44) q44) (0 + (j - 0) - 0) else ZC (Value.agg #[Value.string (ByteArray.mk #[]), Value.string (ByteArray.mk #[])]) (0 + (j - 0)) else zR.enc (gD (ZW l z) i zR.dflt) j) (zR.enc (gD (ZW l z') i zR.dflt) j)))))))) (bF q45 q46 ∧ bF q45 q46)))))))) ((∃ (z_1 : Nat), (z_1 ≤ lN (ZW l (lN l)) ∧ q27 ∧ q28 ∧ (some (Xd Nat) = some (Xd Nat) ∧ 0 = 0 ∧ lN (YX l z_1) = 0) ∧ kI ∧ iZ = (cI z_1)) ∧ q21 ∧ lN (YX l
 z_1) = 0) ∧ ∀ (z_1 : Nat), let q48 := (gD (ZW l z) (0 + Int.toNat (cI z_1)) zR.dflt); let q47 := (Tm.c q48); let q49 := (dK ((cI z_1) + iO)); let q50 := (zu q47); let q53 := (WP (zP q50)); let q52 := (zM (60 : Int) q53); let q51 := (!zS false q52 || zS false q52); let q54 := (zu (Tm.q q48)); z_1 ≤ lN (ZW l (lN l)) → zZ (zM (cI z_1) (lZ (ZW l z))) (bF (DB.db (iZ ≤ (cI z_1) ∧ (cI z_1) < (lZ (ZW l z)))) (zZ (zu q47 == Array.toList q12) (bF q49 (∃ (z'
 : Nat), ((z' ≤ lN (ZW l (lN l)) ∧ lN (ZW l (lN l)) - z' < lN (ZW l (lN l)) - z_1) ∧ q27 ∧ q28 ∧ (nat_lit 2 = 2 ∧ 0 = 0 ∧ lN (YX l z') = lN (YX l z_1)) ∧ kI ∧ (cI z_1) + iO = (cI z')) ∧ q21 ∧ 40 = 40 ∧ 2 = 2 ∧ lN (YX l z') = lN (YX l z_1) ∧ ∀ (i j : Nat), i < lN (YX l z_1) → j < 2 → zi (zR.enc (gD (YX l z_1) i zR.dflt) j) (zR.enc (gD (YX l z') i zR.dflt) j))) (yX 300 q50 ∧ bF q51 (bF q51 ((zS false q52 = true →
 yX 300 q54) ∧ bF q51 (bF (!!zM (60 : Int) q53 || zS false q52) (zZ (bif zM (60 : Int) q53 then true else zM (40 : Int) (WP (zP q54))) q1 (bF (DB.db ((lN (YX l z_1) + 1) * 32 ≤ 140737488355328)) (bF q49 (∃ (z' : Nat), ((z' ≤ lN (ZW l (lN l)) ∧ lN (ZW l (lN l)) - z' < lN (ZW l (lN l)) - z_1) ∧ q27 ∧ q28 ∧ (nat_lit 2 = 2 ∧ 0 = 0 ∧ lN (YX l z') = lN (YX l z_1) + 1) ∧ kI ∧ (cI z_1) + iO = (cI z')) ∧ q21 ∧ (40 : TypeId) = 40 ∧ 2 = 2 ∧ List.length
 (YX l z') = lN (YX l z_1) + 1 ∧ ∀ (i j : Nat), i < lN (YX l z_1) + 1 → j < 2 → zi (if i < lN (YX l z_1) then zR.enc (gD (YX l z_1) i zR.dflt) j else Sx.rowAt [zw [AV.str q50, AV.str q54]] (i - lN (YX l z_1)) j) (zR.enc (gD (YX l z') i zR.dflt) j))))))))))) (zZ (zM (16 : Int) (lZ (YX l z_1))) q1 (bF (Nat.beq (lN (YX l z_1)) (lN (YX l z_1)) && Nat.beq 2 2 && Nat.blt (nat_lit 2) (nat_lit 3) && Nat.beq 210 210) ((lN (YX l
 z_1) < 4611686018427387904 ∧ ∀ (i : Nat), i < lN (YX l z_1) → (Mr fun (j : Nat) => zR.enc (gD (YX l z_1) i zR.dflt) j) = true) ∧ ∀ (p : List Nat), List.Perm p (List.range (lN (YX l z_1))) ∧ List.Pairwise (fun i j => ¬(Sk (fun (j_1 : Nat) => zR.enc (gD (YX l z_1) j zR.dflt) j_1) fun (j : Nat) => zR.enc (gD (YX l z_1) i zR.dflt) j) < iZ) p → j2 ∧ (True ∧ zi (AV.xl false 2 (lN (YX l z_1)) fun i j => zR.enc (gD (YX l z_1) (gD p (0 + i) 0) zR.dflt) j) (AV.xl false 2
 (lN (YA l)) fun i j => zR.enc (gD (YA l) i zR.dflt) j)) ∧ kI ∧ iZ = iZ)))))) := by
 delta bF dK cI kI j2 lZ lN gD iZ iO
 dsimp only
 intro hb
 simp only [↓Zf, ↓Zu, row_one]
 simp only [sS, Z2, ZL, zn, ZQ, xi, YU, yx, dS]
 have hlen := h.len
 have mem : ∀ z, z < l.length → l.getD z zR.dflt ∈ l := fun z hz => yc hz
 have okq : ∀ q : Rat, (q ≠ 0 → Lb (zu q)) → yX 300 (zu q) := fun q hq => by
  by_cases h0 : q = 0
  ·rw [h0]; exact (Zm (by decide) (by decide)).2 ⟨by decide +kernel, by decide +kernel⟩
  ·exact (hq h0).ok.mono (by decide)
 refine ⟨fun h => by omega, fun _ => ⟨⟨0, Nat.zero_le _, rfl⟩, fun z hz => ⟨fun hlt => ?_, fun hge => ?_⟩⟩⟩
 ·have hm := mem z (by omega)
  have o1 : yX 300 (zu (l.getD z zR.dflt).c) := (Zm (by decide) (by decide)).2 ((h.cs _ hm).mono (by decide))
  have o2 := okq _ (h.qs _ hm)
  have hm0 := UR o2.1 (by rw [zn]; exact (h.root _ hm).1)
  rw [hm0]
  exact ⟨⟨by omega, by omega⟩, o1, o2, zY.2 ⟨fun c => (by cases c), fun _ => ⟨by simp only [ZB]; omega, z + 1, ⟨by omega, by omega⟩, by omega⟩⟩⟩
 refine ⟨⟨0, ⟨Nat.zero_le _, rfl⟩, rfl, rfl⟩, fun z hz => ⟨fun hlt => ?_, fun hge => ?_⟩⟩
 ·have hz' : z < l.length := by omega
  have hm := mem z hz'
  obtain ⟨k1, k2⟩ := Lt h z
  have s0 := nE hz'
  have s1 := NT hz'
  have hc := h.cs _ hm
  have hq := h.qs _ hm
  have hv := P4 h.root
  have hin : ¬((l.getD z zR.dflt).c = 0 ∨ (l.getD z zR.dflt).q = 0) → yw RM (ru (l.getD z zR.dflt)) := fun hn => by
   refine hv.1 _ (List.mem_map.2 ⟨_, List.mem_filter.2 ⟨hm, ?_⟩, rfl⟩)
   simp only [not_or] at hn
   simp only [decide_eq_true_eq, Bool.and_eq_true]
   exact hn
  rw [ws, ws, qM]
  generalize l.getD z zR.dflt = t at *
  refine ⟨⟨by omega, by omega⟩, zY.2 ⟨fun c => ?_, fun c => ?_⟩⟩
  ·have c : t.c = 0 ∨ t.q = 0 := by simpa using c
   have e := s0 c
   exact ⟨by simp only [ZB]; omega, z + 1, ⟨⟨by omega, by omega⟩, by omega⟩, by rw [e], by rw [e], fun i j _ _ => by rw [e]; exact zV _⟩
  have c : ¬(t.c = 0 ∨ t.q = 0) := by simpa using c
  have c2 := not_or.1 c
  have e := s1 c
  rw [ot] at e
  have hn := hin c
  rw [ot] at hn
  obtain ⟨r1, r2, r3⟩ := Gu (hq c2.2)
  refine ⟨zY.2 ⟨fun _ => ⟨hq c2.2, (nK t.q, nL t.q), ⟨⟨rfl, rfl⟩, rfl, rfl⟩, fun _ _ _ _ => trivial⟩, fun c3 => ⟨(nK t.q, nL t.q), ⟨⟨rfl, rfl⟩, ?_⟩, fun _ _ _ _ => trivial⟩⟩, fun y ⟨y1, y2⟩ => ?_⟩
  ·have c3 : t.q = 1 := by simpa using c3
   rw [c3, m9.1, m9.2]
   decide +kernel
  obtain ⟨ya, yb⟩ := y
  simp only at y1 y2 ⊢
  rw [← y1, ← y2] at e hn
  rw [← y1] at r3
  obtain ⟨b1, b2, b3, b4⟩ := WI hn (by decide)
  have b1 : bq 8 yb := b1
  have l90 : zM 90 (WP yb) = false := Bool.eq_false_iff.2 fun e => by
   have := (zq _ _).1 e
   have := VL (by decide) b1
   omega
  rw [l90]
  have okb : yX 300 (zu yb) := (Zm (by decide) (by decide)).2 (b1.mono (by decide))
  have okc : UU 140 (zu t.c) (zu ya) := ⟨(Zm (by decide) (by decide)).2 (hc.mono (by decide)), (Zm (by decide) (by decide)).2 (r3.mono (by decide))⟩
  have hcb : bq 77 (t.c * ya) := PH hc r3
  refine ⟨fun _ => okb, zY.2 ⟨fun c => (by cases c), fun _ => ⟨okc, ⟨0, ⟨⟨Nat.zero_le _, fun j hj => absurd hj (Nat.not_lt_zero _)⟩, rfl⟩, fun _ _ _ _ => trivial⟩, fun k ⟨q1, q2⟩ => ⟨fun kl => ?_, fun kg => ?_⟩⟩⟩⟩
  ·have hk : k < (ZW l z).length := by omega
   obtain ⟨x1, x2⟩ := k2 _ (yc hk)
   have sa := OY (t := ⟨t.c * ya, yb⟩) (d := zR.dflt) (cl := ZW l z) (i := k) hk q2
   have ra := pn hn x1
   have rs := pn x1 hn
   have sy := mb hn x1
   generalize hx0 : (ZW l z).getD k zR.dflt = x at *
   obtain ⟨xc, xq⟩ := x
   obtain ⟨f1, f2, f3, f4⟩ := WI x1 (by decide)
   have f1 : bq 8 xq := f1
   have okx : yX 140 (zu xq) := (Zm (by decide) (by decide)).2 (f1.mono (by decide))
   have okb2 : yX 140 (zu yb) := (Zm (by decide) (by decide)).2 (b1.mono (by decide))
   refine ⟨⟨by omega, by omega⟩, ra, zY.2 ⟨fun c => ?_, fun c => ⟨⟨⟨okb2, okx⟩, fun hlt2 => ?_, fun hge2 => ?_⟩, fun w hw => ?_⟩⟩⟩
   ·have c : y7 yb xq = false := by simpa using c
    refine ⟨by simp only [ZB]; omega, k + 1, ⟨⟨⟨by omega, fun j hj => ?_⟩, by omega⟩, by omega⟩, fun _ _ _ _ => trivial⟩
    by_cases ej : j = k
    ·subst ej
     rw [hx0]; exact c
    ·exact q2 j (by omega)
   ·have hl := (UQ _ _).1 hlt2
    refine ⟨_, rfl, ?_⟩
    unfold Yk
    rw [if_pos (show (⟨t.c * ya, yb⟩ : Tm).q < (⟨xc, xq⟩ : Tm).q from hl)]
    exact ⟨⟨fun _ _ _ _ => trivial, rfl, rfl⟩, rfl, rfl⟩
   ·have hge2 : 0 ≤ WX yb xq := hge2
    have hl : ¬ yb < xq := fun e => by have := (UQ _ _).2 e; omega
    refine ⟨_, rfl, ?_⟩
    unfold Yk
    rw [if_neg (show ¬ (⟨t.c * ya, yb⟩ : Tm).q < (⟨xc, xq⟩ : Tm).q from hl)]
    exact ⟨⟨fun _ _ _ _ => trivial, rfl, rfl⟩, rfl, rfl⟩
   ·have c : y7 yb xq = true := by simpa using c
    have sa := sa c
    have lh := K3 ⟨xc, xq⟩ ⟨t.c * ya, yb⟩
    rw [← hw] at lh
    have hpl : Gt w.1 w.2 := by
     rw [hw]
     unfold Yk
     split
     ·exact ⟨rs, sy c, hcb.mono (by decide), x2.mono (by decide)⟩
     ·exact ⟨ra, c, x2.mono (by decide), hcb.mono (by decide)⟩
    rw [← lh]
    refine ⟨hpl, ⟨by omega, by omega⟩, by simp only [ZB]; omega, z + 1, ⟨⟨by omega, by omega⟩, by omega⟩, ?_, ?_, fun i j hi hj => ?_⟩
    ·rw [e, sa, List.length_set]
    ·rw [e, sa, List.length_set]
    ·rw [e, sa]
     exact Fg _ _ _ hk i j hj
  ·have sn := Sr (t := ⟨t.c * ya, yb⟩) (d := zR.dflt) (cl := ZW l z) fun j hj => q2 j (by omega)
   have fin : ((ZW l z).length + 1) * 32 ≤ 140737488355328 ∧ ZB IntKind.i64 ((z : Int) + 1) ∧ ∃ z', ((z' ≤ l.length ∧ l.length - z' < l.length - z) ∧ (z : Int) + 1 = (z' : Int)) ∧ (ZW l z').length = (ZW l z).length + 1 ∧ (ZW l z').length = (ZW l z).length + 1 ∧
     ∀ (i j : Nat), i < (ZW l z).length + 1 → j < 2 → zi (if i < (ZW l z).length then zR.enc ((ZW l z).getD i zR.dflt) j else zw [AV.str (zu (t.c * ya)), AV.str (zu yb)] j) (zR.enc ((ZW l z').getD i zR.dflt) j) := by
    refine ⟨by omega, by simp only [ZB]; omega, z + 1, ⟨⟨by omega, by omega⟩, by omega⟩, by rw [e, sn]; simp, by rw [e, sn]; simp, fun i j hi hj => ?_⟩
    rw [e, sn]
    exact Lu _ ⟨t.c * ya, yb⟩ i j hi
   first | exact fin | exact ⟨fin, fin⟩
 ·have hz' : z = l.length := by omega
  subst hz'
  obtain ⟨k1, k2⟩ := Lt h l.length
  refine ⟨⟨0, ⟨Nat.zero_le _, rfl, rfl⟩, fun _ _ _ _ => trivial, rfl⟩, fun y hy => ⟨fun yl => ?_, fun yg => ?_⟩⟩
  ·have hyl : y < (ZW l l.length).length := by omega
   have os := OM hyl
   obtain ⟨x1, x2⟩ := k2 _ (yc hyl)
   have ho : (YX l y).length ≤ y := by
    unfold YX
    exact Nat.le_trans (List.length_filter_le _ _) (by rw [List.length_take]; omega)
   rw [ws]
   generalize (ZW l l.length).getD y zR.dflt = x at *
   obtain ⟨f1, f2, f3, f4⟩ := WI x1 (by decide)
   refine ⟨⟨by omega, by omega⟩, zY.2 ⟨fun c => ?_, fun c => ?_⟩⟩
   ·have c : x.c = 0 := by simpa using c
    rw [if_pos c, List.append_nil] at os
    exact ⟨by simp only [ZB]; omega, y + 1, ⟨⟨by omega, by omega⟩, by rw [os], by omega⟩, fun _ _ _ _ => trivial, by rw [os], fun i j _ _ => by rw [os]; exact zV _⟩
   ·have c : x.c ≠ 0 := by simpa using c
    rw [if_neg c] at os
    have l60 : zM 60 (WP x.c) = false := Bool.eq_false_iff.2 fun e => by
     have := (zq _ _).1 e
     have := VL (by decide) x2
     omega
    have l40 : zM 40 (WP x.q) = false := Bool.eq_false_iff.2 fun e => by
     have := (zq _ _).1 e
     have := VL (by decide) f1
     omega
    rw [l60, l40]
    refine ⟨(Zm (by decide) (by decide)).2 (x2.mono (by decide)), fun _ => (Zm (by decide) (by decide)).2 (f1.mono (by decide)), zY.2 ⟨fun c => (by cases c), fun _ => ⟨by omega, by simp only [ZB]; omega, y + 1, ⟨⟨by omega, by omega⟩, by rw [os]; simp, by omega⟩, fun _ _ _ _ => trivial, by rw [os]; simp, fun i j hi _ => ?_⟩⟩⟩
    rw [os]
    exact Lu _ x i j hi
  ·have hye : y = (ZW l l.length).length := by omega
   subst hye
   rw [LI]
   have hmk : (YA l).length = (xF l).length := (Xh (xF l)).length_eq
   have h16 := h.out
   refine ⟨fun h => by omega, fun _ => zY.2 ⟨fun _ => ⟨⟨by omega, fun i hi => ?_⟩, fun p ⟨p1, p2⟩ => ?_⟩, fun c => ?_⟩⟩
   ·have hm : (xF l).getD i zR.dflt ∈ ZW l l.length := by rw [qv]; exact (List.mem_filter.1 (yc hi)).1
    obtain ⟨x1, _⟩ := k2 _ hm
    obtain ⟨f1, f2, f3, f4⟩ := WI x1 (by decide)
    unfold Mr
    have e1 : zR.dec (α := Tm) (fun j => zR.enc ((xF l).getD i zR.dflt) j) = (xF l).getD i zR.dflt := YR.dec _
    have e2 : zR.ok (α := Tm) (fun j => zR.enc ((xF l).getD i zR.dflt) j) = true := YR.ok _
    rw [e1, e2, Bool.true_and, Bool.and_eq_true]
    exact ⟨Nat.ble_eq_true_of_le f4, Nat.ble_eq_true_of_le (by rw [f3]; decide)⟩
   ·have hP := Jt h p1 p2
    have hpl : p.length = (xF l).length := by rw [p1.length_eq, List.length_range]
    refine ⟨rfl, fun h => h, rfl, hmk, fun i j hi hj => ?_⟩
    have : (p.map fun i => (xF l).getD i zR.dflt).getD i zR.dflt = (xF l).getD (p.getD i 0) zR.dflt := by
     simp [List.getD_eq_getElem?_getD, List.getElem?_map, List.getElem?_eq_getElem (show i < p.length by omega)]
    show zi (zR.enc ((xF l).getD (p.getD i 0) zR.dflt) j) (zR.enc ((YA l).getD i zR.dflt) j)
    rw [hP, this]
    exact zV _
   ·rw [Nat.beq_refl] at c; cases c
theorem f9 {G : List (Nat × Obj)} (hG : zO G) (l : List Tm) (h : uM l) : zv Tryz.prog G 158 [Zl l] (.tup 2 (zw [Zl (YA l), .i 0])) :=
 zW (T := e7 G l) (an := H0 l) mixed (Nq hG l) (Eq.mp (by kernel_rfl) (Hj G l h))
theorem l7 {G : List (Nat × Obj)} (hG : zO G) : zQ Tryz.prog G 158 qa := by
 intro xs ps r h hp
 unfold qa at h
 split at h
 ·skip
  rename_i x_l
  cases h
  obtain ⟨q0, q1, -⟩ := ZT hp
  exact weaken (ys := [Zl (Zn (α := Tm) x_l)]) ⟨zI q0, trivial⟩ (f9 hG (Zn (α := Tm) x_l) q1)
 ·cases h
end Go.Te
