/- root: the normal form and the ratio of roots, of numbers with few digits. -/
import Derived.Test.YthbpnknhfokadaaGreatDoorThQa
import Derived.Test.YthbpnknhfokadaaGreatDoorArZ
import Derived.Shelf.SlLaysF0
import Derived.Shelf.SlSortCmp.NoneTotal
import Derived.Test.YthbpnknhfokadaaGreatDoorSxSo
import Derived.Test.YthbpnknhfokadaaGreatDoorThS
import Derived.Test.YthbpnknhfokadaaGreatDoorProg
import Derived.Test.YthbpnknhfokadaaGreatDoorThIf
set_option linter.unusedSimpArgs false
set_option linter.unusedVariables false
namespace Go.Te
open Go Go.Sx Go.Proofs Go.Ar
set_option maxRecDepth 100000
set_option maxHeartbeats 4000000
def T3 : List AV → Option (List zk × AV)
 | [.v (.int .i64 n), .v (.int .i64 d)] => some ([.p (0 < n), .p (0 < d ∧ d ≤ 10000000000000000), .p (n * d ≤ 100000000000000000)], .tup 2 (zw [.str (ZW (nrm (n * d).toNat).1 d.toNat), .str (Lib.itoa (nrm (n * d).toNat).2)]))
 | _ => none
theorem lF {G : List (Nat × Obj)} (hG : zN G) : zO Tryz.prog G 124 T3 := by
 intro xs ps r h hp
 unfold T3 at h
 split at h
 ·rename_i n d
  cases h
  obtain ⟨q0, q1, q2, -⟩ := ZH hp
  have hs := oo hG
  obtain ⟨_, t, fr, G', rfl⟩ := hG
  exact zW mixed hs (Eq.mp (by kernel_rfl) (N2 t fr G' n d q0 q1 q2) : vK Tryz.prog (gH ((2, Obj.cells zM t fr) :: G')) 124 (nk (n * d).toNat) [.i n, .i d] (.tup 2 (zw [.str (ZW (nrm (n * d).toNat).1 d.toNat), .str (Lib.itoa (nrm (n * d).toNat).2)])))
 ·cases h
theorem sX {a : zI} (h : zG a = 0) (h0 : 0 ≤ zD a) : zJ a = false := by
 have h2 := Rat.num_nonneg.2 h0
 rw [(Z1 h).1] at h2
 have := (Sv (a := a)).1
 cases hm : zJ a with
 | false => rfl
 | true =>
  rw [hm, cond_true] at this
  have hz : zj a = 0 := by omega
  have e := wu (Zr.1 h).1
  rw [hz] at e
  rw [← e] at hm
  have : ∀ r : zI, zJ (Lib.itoa ((0 : Nat) : Int) ++ r) = false := fun r => by rw [Go.Ar.Z6, Zz (by omega)]; rfl
  have := this (bif Nat.beq (zn a) 1 then [] else 47 :: Lib.decDigits (zn a))
  unfold YL at hm
  rw [show Lib.itoa (0 : Int) = Lib.itoa ((0 : Nat) : Int) from rfl, this] at hm
  cases hm
theorem lw {n : Int} (h : 0 ≤ n) : zJ (Lib.itoa n) = false ∧ zR (Lib.itoa n) = Lib.itoa n := by
 obtain ⟨m, rfl⟩ : ∃ m : Nat, n = m := ⟨n.toNat, by omega⟩
 have hd := (Zs.1 (Yq m))
 have hm : zJ (Lib.itoa (m : Int)) = false := by
  rw [Go.Ar.Z6]
  match hq : Lib.decDigits m, hd with
  | c :: r, hd =>
   have := YZ.1 (hd.2.1 c List.mem_cons_self)
   exact beq_eq_false_iff_ne.2 fun e => by subst e; exact absurd this.1 (by decide)
 refine ⟨hm, ?_⟩
 unfold zR
 rw [hm]; rfl
theorem s7 (n : Int) : (zR (Lib.itoa n)).length = xa n := by
 by_cases h : 0 ≤ n
 ·rw [(lw h).2, XX, if_neg (by omega)]; rfl
 ·have e : Lib.itoa n = 45 :: Lib.decDigits n.natAbs := by
   have := Go.Ar.itoa_neg (n := n.natAbs) (by omega)
   rw [show -((n.natAbs : Nat) : Int) = n by omega] at this
   exact this
  rw [e]
  show (Lib.decDigits n.natAbs).length = _
  rw [Lib.decDigits_length]; rfl
def iC (r : AV) : List AV → Option (List zk × AV) := fun _ => some ([.p False], r)
theorem Px {P : Program} {G : List (Nat × Obj)} {f : FuncId} (r : AV) : zO P G f (iC r) := by
 intro xs ps r' h hp
 cases h
 exact (hp _ List.mem_cons_self).elim
def rL : List AV → Option (List zk × AV)
 | [.str a] => some ([.p (Yk 300 a)], .agg 2 (zw [.str (Lib.itoa (zD a).num), .str (Lib.itoa ((zD a).den : Int))]))
 | _ => none
theorem jd (G : List (Nat × Obj)) (a : List UInt8) (hr : Yk 300 a) :
 Zv [AV.str a] → Yk 300 a ∧ 2 = 2 ∧ Lib.itoa (Rat.num (zD a)) = Lib.itoa (Rat.num (zD a)) ∧ Lib.itoa (cI (Rat.den (zD a))) = Lib.itoa (cI (Rat.den (zD a))) := by
 delta cI
 intro hb
 simp only [sS, dS]
 exact hr
theorem Im {G : List (Nat × Obj)} (hG : zN G) (a : List UInt8) (hr : Yk 300 a) : zU Tryz.prog G 112 [.str a] (.agg 2 (zw [.str (Lib.itoa (zD a).num), .str (Lib.itoa ((zD a).den : Int))])) :=
 zW (T := (WA G).plus 85 SV) (an := .auto) mixed (zz.plus zo (qq hG)) (Eq.mp (by kernel_rfl) (jd G a hr))
theorem N8 {G : List (Nat × Obj)} (hG : zN G) : zO Tryz.prog G 112 rL := by
 intro xs ps r h hp
 unfold rL at h
 split at h
 ·skip
  rename_i a
  cases h
  obtain ⟨q0, -⟩ := ZH hp
  exact weaken (ys := [.str a]) ⟨zT _, trivial⟩ (Im hG a q0)
 ·cases h
def uN : List AV → Option (List zk × AV)
 | [.str m] => some ([.p (Zx m = true), .p (m.length ≤ 17)], .tup 2 (zw [.i (zX m), .b true]))
 | _ => none
theorem mo (m : List UInt8) (hi : Zx m = true) (hl : m.length ≤ 17) :
 Zv [AV.str m] → zZ (zF (17 : Int) (lZ m)) (j2 ∧ (True ∧ kI ∧ iZ = zX m) ∧ false = true) (bF (Zx m) (lN m ≤ 18 ∧ j2 ∧ (True ∧ kI ∧ zX m = zX m) ∧ true = true)) := by
 delta bF kI j2 lZ lN iZ
 intro hb
 simp only [sS, dS]
 refine ⟨fun h => by omega, fun _ => ?_⟩
 rw [hi]
 exact ⟨by omega, rfl⟩
theorem KP (m : List UInt8) (hi : Zx m = true) (hl : m.length ≤ 17) : zU Tryz.prog [] 123 [.str m] (.tup 2 (zw [.i (zX m), .b true])) :=
 zW (T := T0.plus 145 VO) (an := .auto) mixed (zz.plus zo SX) (Eq.mp (by kernel_rfl) (mo m hi hl))
theorem Pq : zO Tryz.prog [] 123 uN := by
 intro xs ps r h hp
 unfold uN at h
 split at h
 ·skip
  rename_i m
  cases h
  obtain ⟨q0, q1, -⟩ := ZH hp
  exact weaken (ys := [.str m]) ⟨zT _, trivial⟩ (KP m q0 q1)
 ·cases h
def Sd : List AV → Option (List zk × AV)
 | [.str s, .str p] => some ([.b (p == [45]), .p (zJ s = false)], .b false)
 | _ => none
theorem Lm : zO Tryz.prog [] 44 Sd := by
 intro xs ps r h hp
 unfold Sd at h
 split at h
 ·rename_i s p
  cases h
  have q : (p == [45]) = true := hp _ List.mem_cons_self
  have q1 : zJ s = false := hp _ (List.mem_cons_of_mem _ List.mem_cons_self)
  have : zU Tryz.prog [] 44 [.str s, .str p] (.b (zJ s)) := sD [.str s, .str p] _ _ rfl fun c hc => by
   rw [List.mem_singleton] at hc
   rw [hc]; exact q
  rw [q1] at this
  exact this
 ·cases h
noncomputable def Hj (G : List (Nat × Obj)) : Tb := (((((WA G).plus 43 Sa).plus 112 rL).plus 95 (Yj fun s => .str (zR s))).plus 44 Sd).body Tryz.prog [(154, .auto)]
theorem TM {G : List (Nat × Obj)} (hG : zN G) : zz Tryz.prog (Hj G) := zz.body mixed (zz.plus (zz.plus (zz.plus (zz.plus zo (Qj hG)) (N8 hG)) (zO.mono vf)) (zO.mono Lm)) _
def kt  : yq :=
 .two .auto (.two (.two .auto (.one (.unroll 2 .auto))) (.two (.two .auto (.one (.unroll 2 .auto))) .auto))
def kQ  : yq :=
 .two .auto (.two (.two .auto (.one (.unroll 3 .auto))) (.two (.two .auto (.one (.unroll 3 .auto))) .auto))
theorem nI {x : Rat} (h : bq 90 x) : (zR (Lib.itoa x.num)).length ≤ 90 ∧ (Lib.itoa (x.den : Int)).length ≤ 90 := by
 rw [s7, Go.Ar.Z6, Lib.decDigits_length]
 exact ⟨Ya (by decide) h.1, (z7 (by decide)).2 h.2⟩
structure oh (a : zI) : Prop where
 ok : Yk 90 a
 pos : 0 ≤ zD a
theorem sA {a : zI} (h : oh a) : Yk 300 a ∧ (zR (Lib.itoa (zD a).num)).length ≤ 90 ∧ (Lib.itoa ((zD a).den : Int)).length ≤ 90 ∧ zJ a = false := ⟨h.1.mono (by decide), (nI h.1.2).1, (nI h.1.2).2, sX h.1.1 h.2⟩
theorem lL (G : List (Nat × Obj)) (a : zI) (ha : oh a) :
 let q1 := (lZ (Lib.itoa (cI (Rat.den (zD a))))); let q2 := (lZ (zR (Lib.itoa (Rat.num (zD a))))); Zv [AV.xl false 1 1 fun (x x_1 : Nat) => AV.str a, AV.xl false 1 1 fun (x x_1 : Nat) => AV.str a] → Yk 300 a ∧ Yk 300 a ∧ zZ (zF (90 : Int) (if q1 > q2 then q1 else q2)) (kI ∧ (4 : Int) = iZ) (zJ a = false ∧ kI ∧ iZ = iZ) := by
 delta cI kI lZ iZ
 dsimp only
 intro hb
 simp only [sS, dS]
 obtain ⟨a1, a2, a3, a4⟩ := sA ha
 exact ⟨a1, a1, fun h => by split at h <;> omega, fun _ => a4⟩
theorem KZ (G : List (Nat × Obj)) (a b : zI) (ha : oh a) (hc : oh b) :
 let q1 := (lZ (Lib.itoa (cI (Rat.den (zD a))))); let q2 := (lZ (zR (Lib.itoa (Rat.num (zD a))))); let q3 := (kI ∧ (4 : Int) = iZ); let q4 := (lZ (Lib.itoa (cI (Rat.den (zD b))))); let q5 := (lZ (zR (Lib.itoa (Rat.num (zD b))))); Zv [AV.xl false 1 2 fun (i x : Nat) => zw [AV.str a, AV.str b] i, AV.xl false 1 2 fun (i x : Nat) => zw [AV.str a, AV.str b] i] → Yk 300 a ∧ Yk 300 a ∧ zZ (zF (90 : Int) (if q1 > q2 then q1 else q2)) q3 (Yk 300 b ∧ Yk 300 b ∧ zZ (zF (90
 : Int) (if q4 > q5 then q4 else q5)) q3 (zJ a = false ∧ zJ b = false ∧ kI ∧ iZ = iZ)) := by
 delta cI kI lZ iZ
 dsimp only
 intro hb
 simp only [sS, dS]
 obtain ⟨a1, a2, a3, a4⟩ := sA ha
 obtain ⟨b1, b2, b3, b4⟩ := sA hc
 exact ⟨a1, a1, fun h => by split at h <;> omega, fun _ => ⟨b1, b1, fun h => by split at h <;> omega, fun _ => ⟨a4, b4⟩⟩⟩
theorem Pr {f : Bool} {x : Nat → Nat → AV} {a : zI} (h : ZK (x 0 0) = true) (e : AV.bytes (x 0 0) = a) : zb (.xl f 1 1 x) (.xl false 1 1 fun _ _ => .str a) := by
 refine ⟨(fun h => by cases h), rfl, rfl, fun i j hi hj => ?_⟩
 obtain rfl : i = 0 := by omega
 obtain rfl : j = 0 := by omega
 rw [← e]
 exact ZT (Xs h)
theorem Pw {f : Bool} {x : Nat → Nat → AV} {a b : zI} (h : ZK (x 0 0) = true) (h2 : ZK (x 1 0) = true) (e : AV.bytes (x 0 0) = a) (e2 : AV.bytes (x 1 0) = b) : zb (.xl f 1 2 x) (.xl false 1 2 fun i _ => zw [.str a, .str b] i) := by
 refine ⟨(fun h => by cases h), rfl, rfl, fun i j hi hj => ?_⟩
 obtain rfl : j = 0 := by omega
 rw [← e, ← e2]
 match i, hi with
 | 0, _ => exact ZT (Xs h)
 | 1, _ => exact ZT (Xs h2)
def PZ : List AV → Option (List zk × AV)
 | [.xl _ 1 1 x, .xl _ 1 1 y] => some ([.b (ZK (x 0 0) && ZK (y 0 0) && (AV.bytes (y 0 0) == AV.bytes (x 0 0))), .p (oh (AV.bytes (x 0 0)))], .i 0)
 | [.xl _ 1 2 x, .xl _ 1 2 y] => some ([.b (ZK (x 0 0) && ZK (x 1 0) && ZK (y 0 0) && ZK (y 1 0) && (AV.bytes (y 0 0) == AV.bytes (x 0 0)) && (AV.bytes (y 1 0) == AV.bytes (x 1 0))), .p (oh (AV.bytes (x 0 0))), .p (oh (AV.bytes (x 1 0)))], .i 0)
 | _ => none
theorem Ka {G : List (Nat × Obj)} (hG : zN G) : zO Tryz.prog G 110 PZ := by
 intro xs ps r h hp
 unfold PZ at h
 split at h
 ·rename_i x _ y
  cases h
  have q0 : (ZK (x 0 0) && ZK (y 0 0) && (AV.bytes (y 0 0) == AV.bytes (x 0 0))) = true := hp _ List.mem_cons_self
  have q1 := hp _ (List.mem_cons_of_mem _ List.mem_cons_self)
  simp only [Bool.and_eq_true, beq_iff_eq] at q0
  exact weaken (ys := [_, _]) ⟨Pr q0.1.1 rfl, Pr q0.1.2 q0.2, trivial⟩ (zW mixed (TM hG) (Eq.mp (by kernel_rfl) (lL G (AV.bytes (x 0 0)) q1) : vK Tryz.prog (Hj G) 110 kt [.xl false 1 1 (fun _ _ => .str (AV.bytes (x 0 0))), .xl false 1 1 (fun _ _ => .str (AV.bytes (x 0 0)))] (.i 0)))
 ·rename_i x _ y
  cases h
  have q0 : (ZK (x 0 0) && ZK (x 1 0) && ZK (y 0 0) && ZK (y 1 0) && (AV.bytes (y 0 0) == AV.bytes (x 0 0)) && (AV.bytes (y 1 0) == AV.bytes (x 1 0))) = true := hp _ List.mem_cons_self
  have q1 := hp _ (List.mem_cons_of_mem _ List.mem_cons_self)
  have q2 := hp _ (List.mem_cons_of_mem _ (List.mem_cons_of_mem _ List.mem_cons_self))
  simp only [Bool.and_eq_true, beq_iff_eq] at q0
  exact weaken (ys := [_, _]) ⟨Pw q0.1.1.1.1.1 q0.1.1.1.1.2 rfl rfl, Pw q0.1.1.1.2 q0.1.1.2 q0.1.2 q0.2, trivial⟩ (zW mixed (TM hG) (Eq.mp (by kernel_rfl) (KZ G (AV.bytes (x 0 0)) (AV.bytes (x 1 0)) q1 q2) : vK Tryz.prog (Hj G) 110 kQ [.xl false 1 2 (fun i _ => zw [.str (AV.bytes (x 0 0)), .str (AV.bytes (x 1 0))] i), .xl false 1 2 (fun i _ => zw [.str (AV.bytes (x 0 0)), .str (AV.bytes (x 1 0))] i)] (.i 0)))
 ·cases h
theorem QY (n : Int) : 0 < xa n := by
 unfold xa
 rw [← Lib.decDigits_length]
 exact yF _
theorem wE (n : Int) : n.natAbs < 10 ^ xa n := (z7 (QY n)).1 (Nat.le_refl _)
theorem rt {n : Int} (h : n ≠ 0) : (Lib.itoa n == [48]) = false := beq_eq_false_iff_ne.2 fun e => by
 have := (za n).2
 rw [e] at this
 have h0 : zX [48] = 0 := by decide
 omega
theorem wG (k : Nat) : zt (k : Rat) = Lib.itoa (k : Int) := by rw [← Rat.intCast_natCast, RI]
structure OC (a : zI) : Prop where
 ok : Yk 90 a
 pos : 0 < zD a
 len : xa (zD a).num + Lib.nDigits (zD a).den ≤ 17
noncomputable def gw (G : List (Nat × Obj)) : Tb := ((((((WA G).plus 110 PZ).plus 112 rL).plus 123 uN).plus 124 T3).plus 125 (iC (.str []))).plus 126 (iC .junk)
theorem OT {G : List (Nat × Obj)} (hG : zN G) : zz Tryz.prog (gw G) := zz.plus (zz.plus (zz.plus (zz.plus (zz.plus (zz.plus zo (Ka hG)) (N8 hG)) (zO.mono Pq)) (lF hG)) (Px _)) (Px _)
def nK (x : Rat) : Rat := mkRat (nrm (mQ x)).1 x.den
def nL (x : Rat) : Rat := ((nrm (mQ x)).2 : Rat)
def uo : List AV → Option (List zk × AV)
 | [.str q] => some ([.p (OC q)], .tup 3 (zw [.str (zt (nK (zD q))), .str (zt (nL (zD q))), .i 0]))
 | _ => none
theorem O1 (G : List (Nat × Obj)) (q : List UInt8) (hr : OC q) :
 Zv [AV.str q] → zZ (ZK (AV.str q) && ZK (AV.str q) && AV.bytes (AV.str q) == AV.bytes (AV.str q)) (oh (AV.bytes (AV.str q)) ∧ Yk 300 q ∧ zZ (Lib.itoa (Rat.num (zD q)) == bA #[(48 : UInt8)]) (3 = lN [AV.junk, AV.junk, AV.junk] ∧ ((True ∧ bA #[(48 : UInt8)] = zt (nK (zD q))) ∧ bA #[(49 : UInt8)] = zt (nL (zD q))) ∧ kI ∧ iZ = iZ) (bF (DB.db (ZA .i64 ((lZ (Lib.itoa (Rat.num (zD q)))) +
 (lZ (Lib.itoa (cI (Rat.den (zD q)))))))) (zZ (leB ((lZ (Lib.itoa (Rat.num (zD q)))) + (lZ (Lib.itoa (cI (Rat.den (zD q)))))) (17 : Int)) (Zx (Lib.itoa (Rat.num (zD q))) = true ∧ lN (Lib.itoa (Rat.num (zD q))) ≤ 17 ∧ Zx (Lib.itoa (cI (Rat.den (zD q)))) = true ∧ lN (Lib.itoa (cI (Rat.den (zD q)))) ≤ 17 ∧ iZ < zX (Lib.itoa (Rat.num (zD q))) ∧ (iZ < zX (Lib.itoa (cI (Rat.den (zD q)))) ∧ zX (Lib.itoa (cI (Rat.den (zD q)))) ≤ (10000000000000000 : Int)) ∧ zX (Lib.itoa
 (Rat.num (zD q))) * zX (Lib.itoa (cI (Rat.den (zD q)))) ≤ (100000000000000000 : Int) ∧ 3 = lN [AV.junk, AV.junk, AV.junk] ∧ ((True ∧ ZW (↑(Prod.fst (nrm (Int.toNat (zX (Lib.itoa (Rat.num (zD q))) * zX (Lib.itoa (cI (Rat.den (zD q)))))))) : Int) (Int.toNat (zX (Lib.itoa (cI (Rat.den (zD q)))))) = zt (nK (zD q))) ∧ Lib.itoa (↑(Prod.snd (nrm (Int.toNat (zX (Lib.itoa (Rat.num (zD q))) * zX (Lib.itoa (cI (Rat.den (zD q)))))))) : Int) = zt (nL (zD q))) ∧ kI ∧ iZ = iZ) (False ∧ False ∧ ZE (Operand.tmp 66)))))
 False := by
 delta bF bA cI kI lZ lN iZ
 intro hb
 simp only [sS, dS]
 have hc : oh q := ⟨hr.ok, Rat.le_of_lt hr.pos⟩
 have c1 : (ZK (AV.str q) && ZK (AV.str q) && (AV.str q).bytes == (AV.str q).bytes) = true := by
  show (true && true && (q == q)) = true
  simp
 have h300 := hr.ok.mono (k := 300) (by decide)
 have hl := hr.len
 have hp := hr.pos
 generalize zD q = x at *
 have hn : 0 < x.num := by
  have := Rat.num_nonneg.2 (Rat.le_of_lt hp)
  have h2 : x.num ≠ 0 := fun e => (Rat.ne_of_gt hp) (Rat.num_eq_zero.1 e)
  omega
 have hd := x.den_pos
 have l1 : (Lib.itoa x.num).length = xa x.num := by rw [XX, if_neg (by omega)]; rfl
 have l2 : (Lib.itoa (x.den : Int)).length = Lib.nDigits x.den := by rw [Go.Ar.Z6, Lib.decDigits_length]
 have b1 := wE x.num
 have b2 := wE (x.den : Int)
 have e2 : xa (x.den : Int) = Lib.nDigits x.den := by unfold xa; rw [Int.natAbs_natCast]
 rw [e2, Int.natAbs_natCast] at b2
 have b3 : x.num.natAbs * x.den < 10 ^ 17 := by
  refine Nat.lt_of_lt_of_le (Nat.mul_lt_mul'' b1 b2) ?_
  rw [← Nat.pow_add]
  exact Nat.pow_le_pow_right (by omega) hl
 have p1 := QY x.num
 have b4 : x.den < 10 ^ 16 := Nat.lt_of_lt_of_le b2 (Nat.pow_le_pow_right (by omega) (by omega))
 rw [show 10 ^ 16 = 10000000000000000 from by decide] at b4
 rw [show 10 ^ 17 = 100000000000000000 from by decide] at b3
 have i1 := za x.num
 have i2 := za (x.den : Int)
 have z1 : (Lib.itoa x.num == [48]) = false := rt (by omega)
 have em : (x.num * (x.den : Int)).toNat = mQ x := by
  unfold mQ
  obtain ⟨N, hN⟩ : ∃ N : Nat, x.num = N := ⟨x.num.toNat, by omega⟩
  rw [hN, ← Int.natCast_mul, Int.toNat_natCast, Int.toNat_natCast]
 have eb : x.num * (x.den : Int) ≤ 100000000000000000 := by
  obtain ⟨N, hN⟩ : ∃ N : Nat, x.num = N := ⟨x.num.toNat, by omega⟩
  rw [hN, Int.natAbs_natCast] at b3
  rw [hN, ← Int.natCast_mul]
  omega
 rw [i1.2, i2.2, em, l1, l2, z1]
 refine zY.2 ⟨fun _ => ⟨hc, h300, ?_⟩, fun c => by rw [c1] at c; cases c⟩
 show ZA .i64 _ ∧ _
 refine ⟨by simp only [ZA]; omega, fun _ => ⟨i1.1, by omega, i2.1, by omega, hn, ⟨by omega, by omega⟩, eb, rfl, ?_, ?_⟩, fun h => by omega⟩
 ·rw [Int.toNat_natCast, Yf _ hd]; rfl
 ·exact (wG _).symm
theorem Le {G : List (Nat × Obj)} (hG : zN G) (q : List UInt8) (hr : OC q) : zU Tryz.prog G 83 [.str q] (.tup 3 (zw [.str (zt (nK (zD q))), .str (zt (nL (zD q))), .i 0])) :=
 zW (T := gw G) (an := .auto) mixed (OT hG) (Eq.mp (by kernel_rfl) (O1 G q hr))
theorem PT {G : List (Nat × Obj)} (hG : zN G) : zO Tryz.prog G 83 uo := by
 intro xs ps r h hp
 unfold uo at h
 split at h
 ·skip
  rename_i q
  cases h
  obtain ⟨q0, -⟩ := ZH hp
  exact weaken (ys := [.str q]) ⟨zT _, trivial⟩ (Le hG q q0)
 ·cases h
noncomputable def gn (G : List (Nat × Obj)) : Tb := (((oQ G).plus 123 uN).plus 166 un).plus 117 (iC (.tup 2 (zw [.str [], .i 0]))) |>.plus 125 (iC (.str []))
theorem oR {G : List (Nat × Obj)} (hG : zN G) : zz Tryz.prog (gn G) := zz.plus (zz.plus (zz.plus (zz.plus (yO hG) (zO.mono Pq)) (zO.mono QB)) (Px _)) (Px _)
def Qu : List AV → Option (List zk × AV)
 | [.str m] => some ([.p (Zx m = true), .p (m.length ≤ 17), .p (0 ≤ zX m)], .tup 2 (zw [.str (Lib.itoa (y6 (zX m).toNat : Int)), .b (Nat.beq (y6 (zX m).toNat * y6 (zX m).toNat) (zX m).toNat)]))
 | _ => none
theorem MB (G : List (Nat × Obj)) (m : List UInt8) (hi : Zx m = true) (hl : m.length ≤ 17) (h0 : 0 ≤ zX m) :
 Zv [AV.str m] → Zx m = true ∧ lN m ≤ 17 ∧ (iZ ≤ zX m ∧ zX m ≤ (1000000000000000000 : Int)) ∧ (iN ≤ (cI (y6 (Int.toNat (zX m)))) ∧ (cI (y6 (Int.toNat (zX m)))) ≤ iX) ∧ bF (DB.db (ZA .i64 ((cI (y6 (Int.toNat (zX m)))) * (cI (y6 (Int.toNat (zX m))))))) (j2 ∧ (True ∧ Lib.itoa (cI (y6 (Int.toNat (zX m)))) = Lib.itoa (cI (y6 (Int.toNat (zX m))))) ∧ ((cI (y6 (Int.toNat (zX m)))) * (cI (y6 (Int.toNat (zX m)))) == zX m) = Nat.beq (y6
 (Int.toNat (zX m)) * y6 (Int.toNat (zX m))) (Int.toNat (zX m))) := by
 delta bF cI j2 lN iZ iX iN
 intro hb
 simp only [sS, dS]
 obtain ⟨m', hm⟩ : ∃ k : Nat, zX m = k := ⟨(zX m).toNat, by omega⟩
 have hb2 : (zX m).natAbs < 10 ^ 17 := Nat.lt_of_lt_of_le (Pk hi) (Nat.pow_le_pow_right (by omega) hl)
 rw [show 10 ^ 17 = 100000000000000000 from by decide] at hb2
 rw [hm, Int.natAbs_natCast] at hb2
 rw [hm, Int.toNat_natCast]
 obtain ⟨s1, s2⟩ := xh (n := m') (by omega)
 have hr : y6 m' < 1000000000 := Xc (by omega)
 refine ⟨hi, hl, ⟨by omega, by omega⟩, ⟨by omega, by omega⟩, by rw [← Int.natCast_mul]; simp only [ZA]; omega, rfl, ?_⟩
 rw [← Int.natCast_mul, Bool.eq_iff_iff, beq_iff_eq, Nat.beq_eq]
 omega
theorem j9 {G : List (Nat × Obj)} (hG : zN G) (m : List UInt8) (hi : Zx m = true) (hl : m.length ≤ 17) (h0 : 0 ≤ zX m) : zU Tryz.prog G 127 [.str m] (.tup 2 (zw [.str (Lib.itoa (y6 (zX m).toNat : Int)), .b (Nat.beq (y6 (zX m).toNat * y6 (zX m).toNat) (zX m).toNat)])) :=
 zW (T := gn G) (an := .auto) mixed (oR hG) (Eq.mp (by kernel_rfl) (MB G m hi hl h0))
theorem JD {G : List (Nat × Obj)} (hG : zN G) : zO Tryz.prog G 127 Qu := by
 intro xs ps r h hp
 unfold Qu at h
 split at h
 ·skip
  rename_i m
  cases h
  obtain ⟨q0, q1, q2, -⟩ := ZH hp
  exact weaken (ys := [.str m]) ⟨zT _, trivial⟩ (j9 hG m q0 q1 q2)
 ·cases h
structure Kl (p q : zI) : Prop where
 fp : oh p
 fq : oh q
 pos : 0 < zD q
 num : xa (zD p / zD q).num ≤ 17
 den : Lib.nDigits (zD p / zD q).den ≤ 17
noncomputable def gA (G : List (Nat × Obj)) : Tb := ((((WA G).plus 110 PZ).plus 112 rL).plus 66 nF).plus 127 Qu |>.body Tryz.prog [(111, .auto), (128, .auto)] |>.body Tryz.prog [(111, .auto)]
theorem oT {G : List (Nat × Obj)} (hG : zN G) : zz Tryz.prog (gA G) := zz.body mixed (zz.body mixed (zz.plus (zz.plus (zz.plus (zz.plus zo (Ka hG)) (N8 hG)) (jP hG)) (JD hG)) _) _
def U9 : List AV → Option (List zk × AV)
 | [.str p, .str q] => some ([.p (Kl p q)], .tup 3 (zw [.str (bif yw (zD p) (zD q) then zt (ww (zD p) (zD q)) else []), .b (yw (zD p) (zD q)), .i 0]))
 | _ => none
theorem Kv (G : List (Nat × Obj)) (p : List UInt8) (q : List UInt8) (hr : Kl p q) :
 let q1 := ((True ∧ bA #[] = bif yw (zD p) (zD q) then zt (ww (zD p) (zD q)) else []) ∧ false = yw (zD p) (zD q)); let q2 := (Lib.itoa (Rat.num (zD (zt (zD p / zD q))))); let q3 := (Lib.itoa (cI (Rat.den (zD (zt (zD p / zD q)))))); let q5 := (Int.toNat (zX q2)); let q4 := (y6 q5 * y6 q5); let q6 := (Int.toNat (zX q3)); let q7 := (Lib.itoa (cI (y6 q5))); let q8 := (Lib.itoa (cI (y6 q6))); Zv [AV.str p, AV.str q] → bF (ZK (AV.str p) && ZK (AV.str q) && ZK (AV.str p) && ZK (AV.str q) && AV.bytes
 (AV.str p) == AV.bytes (AV.str p) && AV.bytes (AV.str q) == AV.bytes (AV.str q)) (oh (AV.bytes (AV.str p)) ∧ oh (AV.bytes (AV.str q)) ∧ zZ (q == bA #[(48 : UInt8)]) (3 = lN [AV.junk, AV.junk, AV.junk] ∧ q1 ∧ kI ∧ (12 : Int) = iZ) (HU p q ∧ Yk 300 (zt (zD p / zD q)) ∧ Zx q2 = true ∧ lN q2 ≤ 17 ∧ iZ ≤ zX q2 ∧ Zx q3 = true ∧ lN q3 ≤ 17 ∧ iZ ≤ zX q3 ∧ bF (!zr false !Nat.beq q4 q5 || zr false !Nat.beq q4 q5) (zZ (!!!Nat.beq q4 q5 || zr false !Nat.beq q4 q5)
 (zZ (bif !Nat.beq q4 q5 then true else !Nat.beq (y6 q6 * y6 q6) q6) (3 = lN [AV.junk, AV.junk, AV.junk] ∧ q1 ∧ kI ∧ iZ = iZ) (HU q7 q8 ∧ 3 = lN [AV.junk, AV.junk, AV.junk] ∧ ((True ∧ zt (zD q7 / zD q8) = bif yw (zD p) (zD q) then zt (ww (zD p) (zD q)) else []) ∧ true = yw (zD p) (zD q)) ∧ kI ∧ iZ = iZ)) False))) := by
 delta bF bA cI kI lN iZ
 dsimp only
 intro hb
 simp only [sS, dS]
 have c1 : (ZK (AV.str p) && ZK (AV.str q) && ZK (AV.str p) && ZK (AV.str q) && (AV.str p).bytes == (AV.str p).bytes && (AV.str q).bytes == (AV.str q).bytes) = true := by
  show (true && true && true && true && (p == p) && (q == q)) = true
  simp
 have hz : (q == [48]) = false := beq_eq_false_iff_ne.2 fun e => by
  have := hr.pos
  rw [e] at this
  exact absurd this (by decide +kernel)
 have hne : zD q ≠ 0 := Rat.ne_of_gt hr.pos
 have hb1 : bq 180 (zD p / zD q) := by
  rw [Rat.div_def]
  have h2 := hr.fq.ok.bq
  refine sN (j := 90) (k := 90) hr.fp.ok.bq ⟨?_, ?_⟩
  ·rw [Rat.num_inv, Int.natAbs_mul, Int.natAbs_natCast]
   have hs : (zD q).num.sign.natAbs ≤ 1 := by rw [Int.natAbs_sign]; split <;> omega
   exact Nat.lt_of_le_of_lt (Nat.mul_le_mul_right _ hs) (by rw [Nat.one_mul]; exact h2.den)
  ·rw [Rat.den_inv, if_neg fun e => hne (Rat.num_eq_zero.1 e)]
   exact h2.num
 have hX : 0 ≤ zD p / zD q := by
  rw [Rat.div_def]
  exact Rat.mul_nonneg hr.fp.pos (Rat.le_of_lt (Rat.inv_pos.2 hr.pos))
 have hn := hr.num
 have hd := hr.den
 have hv : HU p q := ⟨hr.fp.ok.mono (by decide), hr.fq.ok.mono (by decide), hne⟩
 have eB : yw (zD p) (zD q) = Iq (zD p / zD q) := rfl
 have eV : ww (zD p) (zD q) = IT (zD p / zD q) := rfl
 rw [eB, eV, hz]
 refine zY.2 ⟨fun _ => ⟨hr.fp, hr.fq, zY.2 ⟨fun c => (by cases c), fun _ => ⟨hv, (ZL (by decide) (by decide)).2 (hb1.mono (by decide)), ?_⟩⟩⟩, fun c => by rw [c1] at c; cases c⟩
 simp only [zm, (za _).2]
 generalize zD p / zD q = x at *
 have hx := Rat.num_nonneg.2 hX
 have b1 := wE x.num
 have e2 : xa (x.den : Int) = Lib.nDigits x.den := by unfold xa; rw [Int.natAbs_natCast]
 have b2 := wE (x.den : Int)
 rw [e2, Int.natAbs_natCast] at b2
 have k1 : x.num.natAbs < 10 ^ 17 := Nat.lt_of_lt_of_le b1 (Nat.pow_le_pow_right (by omega) hn)
 have k2 : x.den < 10 ^ 17 := Nat.lt_of_lt_of_le b2 (Nat.pow_le_pow_right (by omega) hd)
 have k3 : (10 : Nat) ^ 17 = 100000000000000000 := by decide
 rw [k3] at k1 k2
 have l1 : (Lib.itoa x.num).length ≤ 17 := by rw [XX, if_neg (by omega)]; omega
 have l2 : (Lib.itoa (x.den : Int)).length ≤ 17 := by rw [Go.Ar.Z6, Lib.decDigits_length]; exact hd
 obtain ⟨N, hN⟩ : ∃ N : Nat, x.num = N := ⟨x.num.toNat, by omega⟩
 have dp := x.den_pos
 refine ⟨(za _).1, l1, hx, (za _).1, l2, by omega, ?_⟩
 unfold Iq IT
 rw [Int.toNat_natCast]
 obtain ⟨s1, s2⟩ := xh (n := x.num.toNat) (by omega)
 obtain ⟨t1, t2⟩ := xh (n := x.den) (by omega)
 have r1 : y6 x.num.toNat < 1000000000 := Xc (by omega)
 have r2 : y6 x.den < 1000000000 := Xc (by omega)
 have oi : ∀ a : Nat, a < 1000000000 → Yk 140 (Lib.itoa (a : Int)) := fun a ha => by
  rw [← wG]
  refine (ZL (by decide) (by decide)).2 (bq.mono (j := 9) ⟨?_, ?_⟩ (by decide))
  ·rw [Rat.num_natCast, Int.natAbs_natCast]; exact ha
  ·rw [Rat.den_natCast]; decide
 have qi : ∀ a : Nat, zD (Lib.itoa (a : Int)) = (a : Rat) := fun a => by rw [← wG, zm]
 rw [qi, qi]
 refine zY.2 ⟨fun c => ?_, fun c => ?_⟩
 ·have e : (Nat.beq (y6 x.num.toNat * y6 x.num.toNat) x.num.toNat && Nat.beq (y6 x.den * y6 x.den) x.den) = false := by
   cases h1 : Nat.beq (y6 x.num.toNat * y6 x.num.toNat) x.num.toNat with
   | false => rfl
   | true => rw [h1] at c; simpa using c
  rw [e]
  exact ⟨rfl, rfl, rfl⟩
 ·rw [Bool.or_eq_false_iff, Bool.not_eq_false', Bool.not_eq_false'] at c
  rw [c.1, c.2]
  have hd0 : y6 x.den ≠ 0 := fun e => by have := (Nat.beq_eq ▸ c.2 : y6 x.den * y6 x.den = x.den); rw [e] at this; omega
  refine ⟨⟨oi _ r1, oi _ r2, ?_⟩, rfl, ?_, rfl⟩
  ·rw [qi]
   exact fun e => hd0 (Rat.natCast_eq_zero_iff.1 e)
  ·show zt _ = zt _
   rw [Rat.mkRat_eq_div]; rfl
theorem je {G : List (Nat × Obj)} (hG : zN G) (p : List UInt8) (q : List UInt8) (hr : Kl p q) : zU Tryz.prog G 74 [.str p, .str q] (.tup 3 (zw [.str (bif yw (zD p) (zD q) then zt (ww (zD p) (zD q)) else []), .b (yw (zD p) (zD q)), .i 0])) :=
 zW (T := gA G) (an := .auto) mixed (oT hG) (Eq.mp (by kernel_rfl) (Kv G p q hr))
theorem R8 {G : List (Nat × Obj)} (hG : zN G) : zO Tryz.prog G 74 U9 := by
 intro xs ps r h hp
 unfold U9 at h
 split at h
 ·skip
  rename_i p q
  cases h
  obtain ⟨q0, -⟩ := ZH hp
  exact weaken (ys := [.str p, .str q]) ⟨zT _, zT _, trivial⟩ (je hG p q q0)
 ·cases h
end Go.Te

namespace Go.Te
open Go Go.Sx Go.Proofs Go.Ar
set_option maxRecDepth 100000
set_option maxHeartbeats 4000000
def MK (s : zI) : Bool := zt (zD s) == s
theorem uS (q : Rat) : MK (zt q) = true := by unfold MK; rw [zm]; exact beq_self_eq_true _
theorem O9 {x : AV} (h : (ZK x && MK (AV.bytes x)) = true) : zb x (.str (zt (zD (AV.bytes x)))) := by
 rw [Bool.and_eq_true] at h
 unfold MK at h
 rw [eq_of_beq h.2]
 exact ZT (Xs h.1)
instance : zS Tm := ⟨2, ⟨0, 0⟩, fun t => zw [.str (zt t.c), .str (zt t.q)], fun cs => ⟨zD (AV.bytes (cs 0)), zD (AV.bytes (cs 1))⟩, fun cs => (ZK (cs 0) && MK (AV.bytes (cs 0))) && (ZK (cs 1) && MK (AV.bytes (cs 1))), fun cs h j hj => by
 rw [Bool.and_eq_true] at h
 match j, hj with
 | 0, _ => exact O9 h.1
 | 1, _ => exact O9 h.2⟩
instance : yc Tm := ⟨fun c => by
 show (⟨zD (zt c.c), zD (zt c.q)⟩ : Tm) = c
 rw [zm, zm], fun c => by
 show ((true && MK (zt c.c)) && (true && MK (zt c.q))) = true
 rw [uS, uS]; rfl⟩
theorem Yw (c q : Rat) : yR (AV.agg 2 (zw [AV.str (zt c), AV.str (zt q)])) = (⟨c, q⟩ : Tm) := WN (⟨c, q⟩ : Tm)
theorem yQ (c q : Rat) : yp Tm (AV.agg 2 (zw [AV.str (zt c), AV.str (zt q)])) = true := X7 (⟨c, q⟩ : Tm)
def wd (x : Rat) : Int := if (Lib.nDigits x.den : Int) > (xa x.num : Int) then (Lib.nDigits x.den : Int) else (xa x.num : Int)
theorem vP {x : Rat} {k : Nat} (hk : 0 < k) (h : bq k x) : wd x ≤ k := by
 have a1 : xa x.num ≤ k := Ya hk h.num
 have a2 : Lib.nDigits x.den ≤ k := (z7 hk).2 h.den
 unfold wd
 split <;> omega
noncomputable def gO (G : List (Nat × Obj)) : Tb := (((WA G).plus 95 (Yj fun s => .str (zR s))).body Tryz.prog [(86, .auto)]).plus 85 SV
theorem oN {G : List (Nat × Obj)} (hG : zN G) : zz Tryz.prog (gO G) := zz.plus (zz.body mixed (zz.plus zo (zO.mono vf)) _) (qq hG)
def uq : List AV → Option (List zk × AV)
 | [.str a] => some ([.p (Yk 300 a)], .i (wd (zD a)))
 | _ => none
theorem ON (G : List (Nat × Obj)) (a : List UInt8) (hr : Yk 300 a) :
 let q1 := (↑(lN (zR (Lib.itoa (cI (Rat.den (zD a)))))) : Int); let q2 := (lZ (zR (Lib.itoa (Rat.num (zD a))))); Zv [AV.str a] → Yk 300 a ∧ kI ∧ (if q1 > q2 then q1 else q2) = wd (zD a) := by
 delta cI kI lZ lN
 dsimp only
 intro hb
 simp only [sS, dS]
 refine ⟨hr, ?_⟩
 rw [s7, s7]
 have e2 : xa ((zD a).den : Int) = Lib.nDigits (zD a).den := by unfold xa; rw [Int.natAbs_natCast]
 rw [e2]; rfl
theorem Ln {G : List (Nat × Obj)} (hG : zN G) (a : List UInt8) (hr : Yk 300 a) : zU Tryz.prog G 47 [.str a] (.i (wd (zD a))) :=
 zW (T := gO G) (an := .auto) mixed (oN hG) (Eq.mp (by kernel_rfl) (ON G a hr))
theorem pF {G : List (Nat × Obj)} (hG : zN G) : zO Tryz.prog G 47 uq := by
 intro xs ps r h hp
 unfold uq at h
 split at h
 ·skip
  rename_i a
  cases h
  obtain ⟨q0, -⟩ := ZH hp
  exact weaken (ys := [.str a]) ⟨zT _, trivial⟩ (Ln hG a q0)
 ·cases h
structure ig (x y : Tm) : Prop where
 ra : Kl (zt y.q) (zt x.q)
 rel : yw y.q x.q = true
 cx : bq 100 x.c
 cy : bq 100 y.c
theorem Lv {p q : Rat} (h1 : xa (p / q).num ≤ 17) (h2 : Lib.nDigits (p / q).den ≤ 17) (h0 : 0 ≤ p / q) : bq 9 (ww p q) := by
 unfold ww IT
 generalize p / q = x at *
 have hx := Rat.num_nonneg.2 h0
 have b1 := wE x.num
 have e2 : xa (x.den : Int) = Lib.nDigits x.den := by unfold xa; rw [Int.natAbs_natCast]
 have b2 := wE (x.den : Int)
 rw [e2, Int.natAbs_natCast] at b2
 have k1 : x.num.natAbs < 10 ^ 17 := Nat.lt_of_lt_of_le b1 (Nat.pow_le_pow_right (by omega) h1)
 have k2 : x.den < 10 ^ 17 := Nat.lt_of_lt_of_le b2 (Nat.pow_le_pow_right (by omega) h2)
 have k3 : (10 : Nat) ^ 17 = 100000000000000000 := by decide
 have k4 : (10 : Nat) ^ 9 = 1000000000 := by decide
 rw [k3] at k1 k2
 obtain ⟨s1, s2⟩ := xh (n := x.num.toNat) (by omega)
 obtain ⟨t1, t2⟩ := xh (n := x.den) (by omega)
 have r1 : y6 x.num.toNat < 1000000000 := Xc (by omega)
 have r2 : y6 x.den < 1000000000 := Xc (by omega)
 have hd0 : y6 x.den ≠ 0 := fun e => by rw [e] at t2; have := x.den_pos; omega
 exact vh (by omega) (by rw [Int.natAbs_natCast, k4]; exact r1) (by rw [k4]; exact r2)
noncomputable def gR (G : List (Nat × Obj)) : Tb := (((WA G).plus 74 U9).plus 40 U5).plus 30 nG
theorem PP {G : List (Nat × Obj)} (hG : zN G) : zz Tryz.prog (gR G) := zz.plus (zz.plus (zz.plus zo (R8 hG)) (Sg hG)) (Jq hG)
def T9 : List AV → Option (List zk × AV)
 | [x_x, x_y] => some ([.b (yp Tm x_x), .b (yp Tm x_y), .p (ig (yR (α := Tm) x_x) (yR (α := Tm) x_y))], .tup 2 (zw [xR (⟨(yR (α := Tm) x_x).c + (yR (α := Tm) x_y).c * ww (yR (α := Tm) x_y).q (yR (α := Tm) x_x).q, (yR (α := Tm) x_x).q⟩ : Tm), .i 0]))
 | _ => none
theorem Oc (G : List (Nat × Obj)) (x : Tm) (y : Tm) (hr : ig x y) :
 let q1 := (bif yw (zD (zt (Tm.q y))) (zD (zt (Tm.q x))) then zt (ww (zD (zt (Tm.q y))) (zD (zt (Tm.q x)))) else []); let q2 := (zt (zD (zt (Tm.c y)) * zD q1)); let q3 := (Tm.mk (Tm.c x + Tm.c y * ww (Tm.q y) (Tm.q x)) (Tm.q x)); Zv [AV.agg 2 (zS.enc x), AV.agg 2 (zS.enc y)] → Kl (zt (Tm.q y)) (zt (Tm.q x)) ∧ Oo 140 (zt (Tm.c y)) q1 ∧ Oo 140 (zt (Tm.c x)) q2 ∧ j2 ∧ (True ∧ 2 = 2 ∧ zt (zD (zt (Tm.c x)) + zD q2) = zt (Tm.c q3) ∧ zt (Tm.q x) = zt (Tm.q q3)) ∧ kI ∧ iZ = iZ := by
 delta kI j2 iZ
 dsimp only
 intro hb
 simp only [sS, dS, zm]
 have hp := hr.ra.fp
 have hx := hr.ra.fq.pos
 have h1 := hr.ra.num
 have h2 := hr.ra.den
 have h3 := hr.ra.pos
 have h4 := hp.pos
 rw [zm] at h3 h4
 rw [zm, zm] at h1 h2
 have hX : 0 ≤ y.q / x.q := by
  rw [Rat.div_def]
  exact Rat.mul_nonneg h4 (Rat.le_of_lt (Rat.inv_pos.2 h3))
 have hv := Lv h1 h2 hX
 have hm := sN hr.cy hv
 rw [hr.rel]
 simp only [cond_true, zm]
 exact ⟨hr.ra, ⟨(ZL (by decide) (by decide)).2 (hr.cy.mono (by decide)), (ZL (by decide) (by decide)).2 (hv.mono (by decide))⟩, ⟨(ZL (by decide) (by decide)).2 (hr.cx.mono (by decide)), (ZL (by decide) (by decide)).2 (hm.mono (by decide))⟩, rfl, trivial⟩
theorem LC {G : List (Nat × Obj)} (hG : zN G) (x : Tm) (y : Tm) (hr : ig x y) : zU Tryz.prog G 84 [xR x, xR y] (.tup 2 (zw [xR (⟨x.c + y.c * ww y.q x.q, x.q⟩ : Tm), .i 0])) :=
 zW (T := gR G) (an := .auto) mixed (PP hG) (Eq.mp (by kernel_rfl) (Oc G x y hr))
theorem kS {G : List (Nat × Obj)} (hG : zN G) : zO Tryz.prog G 84 T9 := by
 intro xs ps r h hp
 unfold T9 at h
 split at h
 ·skip
  rename_i x_x x_y
  cases h
  obtain ⟨q0, q1, q2, -⟩ := ZH hp
  exact weaken (ys := [xR (yR (α := Tm) x_x), xR (yR (α := Tm) x_y)]) ⟨Zt q0, Zt q1, trivial⟩ (LC hG (yR (α := Tm) x_x) (yR (α := Tm) x_y) q2)
 ·cases h
end Go.Te

namespace Go.Proofs
open Go.Shelf
def Tryz.pdqCut_ren : Go.Shelf.Ren := ⟨fun | 14 => 87 | 20 => 129 | 21 => 130 | 22 => 131 | 23 => 132 | 24 => 133 | 25 => 134 | 26 => 135 | 27 => 136 | 46 => 169 | 47 => 170 | 48 => 171 | 49 => 172 | 50 => 173 | 15 => 88 | 57 => 193 | 28 => 137 | 29 => 138 | n => n, fun | 24 => 49 | 22 => 25 | 3 => 3 | 25 => 82 | 4 => 4 | 0 => 0 | 46 => 178 | 45 => 177 | 50 => 166 | 66 => 221 | 39 => 127 | 55 => 160 | 70 => 225 | 76 => 241 | 77 => 234 | 53 => 184 | 5 => 5 | 9 => 9 | n => n, fun | n => n⟩
theorem Tryz.pdqCut : Go.Proofs.SlLaysF0.n14 Tryz.prog Tryz.pdqCut_ren := {
 mixed := by kernel_rfl
 f14 := ⟨Tryz.f87.name, by decide, Tryz.func87.trans (congrArg some (by kernel_rfl))⟩
 f15 := Tryz.func88.trans (congrArg some (by kernel_rfl))
 f20 := ⟨Tryz.f129.name, by decide, Tryz.func129.trans (congrArg some (by kernel_rfl))⟩
 f21 := ⟨Tryz.f130.name, by decide, Tryz.func130.trans (congrArg some (by kernel_rfl))⟩
 f22 := ⟨Tryz.f131.name, by decide, Tryz.func131.trans (congrArg some (by kernel_rfl))⟩
 f23 := ⟨Tryz.f132.name, by decide, Tryz.func132.trans (congrArg some (by kernel_rfl))⟩
 f24 := ⟨Tryz.f133.name, by decide, Tryz.func133.trans (congrArg some (by kernel_rfl))⟩
 f25 := ⟨Tryz.f134.name, by decide, Tryz.func134.trans (congrArg some (by kernel_rfl))⟩
 f26 := ⟨Tryz.f135.name, by decide, Tryz.func135.trans (congrArg some (by kernel_rfl))⟩
 f27 := ⟨Tryz.f136.name, by decide, Tryz.func136.trans (congrArg some (by kernel_rfl))⟩
 f28 := Tryz.func137.trans (congrArg some (by kernel_rfl))
 f29 := Tryz.func138.trans (congrArg some (by kernel_rfl))
 f46 := ⟨Tryz.f169.name, by decide, Tryz.func169.trans (congrArg some (by kernel_rfl))⟩
 f47 := Tryz.func170.trans (congrArg some (by kernel_rfl))
 f48 := Tryz.func171.trans (congrArg some (by kernel_rfl))
 f49 := ⟨Tryz.f172.name, by decide, Tryz.func172.trans (congrArg some (by kernel_rfl))⟩
 f50 := ⟨Tryz.f173.name, by decide, Tryz.func173.trans (congrArg some (by kernel_rfl))⟩
 f57 := ⟨Tryz.f193.name, by decide, Tryz.func193.trans (congrArg some (by kernel_rfl))⟩
 t0 := Tryz.underlying0
 a0 := Tryz.isAgg0
 z0 := Tryz.sizeOf0
 v0 := Tryz.zeroValue0
 t3 := Tryz.underlying3
 a3 := Tryz.isAgg3
 z3 := Tryz.sizeOf3
 v3 := Tryz.zeroValue3
 t4 := Tryz.underlying4
 a4 := Tryz.isAgg4
 z4 := Tryz.sizeOf4
 v4 := Tryz.zeroValue4
 t5 := Tryz.underlying5
 a5 := Tryz.isAgg5
 z5 := Tryz.sizeOf5
 v5 := Tryz.zeroValue5
 t9 := Tryz.underlying9
 a9 := Tryz.isAgg9
 z9 := Tryz.sizeOf9
 v9 := Tryz.zeroValue9
 t22 := Tryz.underlying25
 a22 := Tryz.isAgg25
 z22 := Tryz.sizeOf25
 v22 := Tryz.zeroValue25
 t25 := Tryz.underlying82
 a25 := Tryz.isAgg82
 z25 := Tryz.sizeOf82
 v25 := Tryz.zeroValue82
 t39 := Tryz.underlying127
 a39 := Tryz.isAgg127
 z39 := Tryz.sizeOf127
 v39 := Tryz.zeroValue127
 t45 := Tryz.underlying177
 a45 := Tryz.isAgg177
 z45 := Tryz.sizeOf177
 v45 := Tryz.zeroValue177
 t46 := Tryz.underlying178
 a46 := Tryz.isAgg178
 z46 := Tryz.sizeOf178
 v46 := Tryz.zeroValue178
 t50 := Tryz.underlying166
 a50 := Tryz.isAgg166
 z50 := Tryz.sizeOf166
 v50 := Tryz.zeroValue166
 t53 := Tryz.underlying184
 a53 := Tryz.isAgg184
 z53 := Tryz.sizeOf184
 v53 := Tryz.zeroValue184
 t55 := Tryz.underlying160
 a55 := Tryz.isAgg160
 z55 := Tryz.sizeOf160
 v55 := Tryz.zeroValue160
 t66 := Tryz.underlying221
 a66 := Tryz.isAgg221
 z66 := Tryz.sizeOf221
 v66 := Tryz.zeroValue221
 t70 := Tryz.underlying225
 a70 := Tryz.isAgg225
 z70 := Tryz.sizeOf225
 v70 := Tryz.zeroValue225
 t76 := Tryz.underlying241
 a76 := Tryz.isAgg241
 z76 := Tryz.sizeOf241
 v76 := Tryz.zeroValue241
 t77 := Tryz.underlying234
 a77 := Tryz.isAgg234
 z77 := Tryz.sizeOf234
 v77 := Tryz.zeroValue234 }
end Go.Proofs
namespace Go.Te
open Go Go.Sx Go.Proofs Go.RowKit Go.Shelf Go.Sort
set_option maxHeartbeats 4000000
set_option maxRecDepth 100000
theorem Py (n : Nat) (hn : n < 4611686018427387904) (w : World) : Calls Tryz.prog 88 #[.int .u64 (n : Int)] w fun e w' => e = .returned (.int .i64 (Lib.bitLen n : Nat)) ∧ w' = w := by
 have h := Tryz.bits_Len (n : Int) w (by omega) (by omega)
 rwa [Int.toNat_natCast] at h
theorem OJ : RN Tryz.prog 48 2 := by
 intro enc hk h1 cf hO g cb blk off cap d w eg hcmp hH hblk hsz
 have e14 : ∀ args w, (callFunc 87 args).run Tryz.prog w = .ok (.enter 87 args) w := enters_of Tryz.func87 (by kernel_rfl) rfl
 have e15 : ∀ args w, (callFunc 88 args).run Tryz.prog w = .ok (.enter 88 args) w := enters_of Tryz.func88 (by kernel_rfl) rfl
 have hlim : Lib.bitLen d.size < 4611686018427387904 := Nat.lt_of_le_of_lt (Lib.bitLen_le d.size 62 (by omega) (by omega)) (by omega)
 have hp : Calls Tryz.prog 87 _ _ _ := AnyQ.pdqsortCmpFunc_all Tryz.pdqCut 2 Tryz.isAgg49 Tryz.sizeOf49 enc cf g cb hO blk off cap d w eg hcmp ⟨hk, h1, hH, hblk⟩ (d.size + 1) 0 d.size (Lib.bitLen d.size) d w (by omega) rfl (SWK.start hH) (Nat.zero_le _) (Nat.le_refl _) hsz hlim (Or.inl rfl)
 have hl := Py d.size hsz w
 have wr : IntKind.u64.wrap (d.size : Int) = d.size := by simp [IntKind.wrap, IntKind.bits, IntKind.signed]; omega
 have h := pdq_sorts (ltOf cf) hO d 0 d.size (Lib.bitLen d.size) true true (Nat.zero_le _) (Nat.le_refl _) (Or.inl rfl)
 have mixed : Tryz.prog.follows .mixedOrders = true := by kernel_rfl
 clear hH hcmp hk h1
 go_enter Tryz.func48, Tryz.ntmps48
 go_wp2_with (first | (go_at_fn 88; refine hl.mono ?_; rintro e w' ⟨rfl, rfl⟩) | (go_at_fn 87; refine hp.mono ?_; rintro e w' ⟨rfl, n, os, rfl⟩))
 go_end0
 exact ⟨rfl, _, n, os, h.1, h.2, rfl⟩
theorem nS : RG Tryz.prog 48 := by
 intro p cap fv w
 have e14 : ∀ args w, (callFunc 87 args).run Tryz.prog w = .ok (.enter 87 args) w := enters_of Tryz.func87 (by kernel_rfl) rfl
 have e15 : ∀ args w, (callFunc 88 args).run Tryz.prog w = .ok (.enter 88 args) w := enters_of Tryz.func88 (by kernel_rfl) rfl
 have hp : ∀ qn W, Calls Tryz.prog 87 #[.slice p 0 cap, .int .i64 0, .int .i64 0, .int .i64 qn, fv] W fun e w' => e = .returned (.tuple #[]) ∧ w' = W := fun qn W => AnyF.pdqsortCmpFunc_none Tryz.pdqCut p cap qn fv W
 have hl : ∀ W, Calls Tryz.prog 88 #[.int .u64 0] W fun e w' => e = .returned (.int .i64 (Lib.bitLen 0 : Nat)) ∧ w' = W := fun W => Py 0 (by omega) W
 have mixed : Tryz.prog.follows .mixedOrders = true := by kernel_rfl
 go_enter Tryz.func48, Tryz.ntmps48
 go_wp2_with (first | (go_at_fn 88; refine (hl _).mono ?_; rintro e w' ⟨rfl, rfl⟩) | (go_at_fn 87; refine (hp _ _).mono ?_; rintro e w' ⟨rfl, rfl⟩))
 go_end0
 exact ⟨rfl, rfl⟩
end Go.Te

namespace Go.Te
open Go Go.Sx Go.Proofs Go.Ar Go.RowKit Go.Shelf
set_option maxRecDepth 100000
set_option maxHeartbeats 4000000
abbrev RM : Nat := 99999999
theorem LI {a : zI} (h : zG a = 0) (hn : (zj a).natAbs ≤ 99999999) (hd : zn a ≤ 99999999) : Zy a = true := by
 obtain ⟨_, o2, _, _, o5, _, _⟩ := Yd a
 have hf := (Zr.1 h).1
 have hp := yN hf
 have e : a = YL (zj a) (zn a) := (wu hf).symm
 obtain ⟨s1, s2, s3, s4, s5⟩ := XM (zj a) hp
 rw [← e] at s4 s5
 have a1 : xa (zj a) ≤ 8 := Ya (by decide) (Nat.lt_of_le_of_lt hn (by decide))
 have a2 : Lib.nDigits (zn a) ≤ 8 := (z7 (by decide)).2 (Nat.lt_of_le_of_lt hd (by decide))
 unfold Zy
 rw [h, Bool.and_eq_true, Bool.and_eq_true, ZX, ZX]
 have q1 : (zL (zR a)).length ≤ 8 := by rw [← o5, s4]; exact a1
 have q2 : (z6 (zR a)).length ≤ 8 := by rw [← o2, s5]; split <;> omega
 exact ⟨⟨rfl, by omega⟩, by omega⟩
theorem J3 {a : zI} (h : Zy a = true) : bq 9 (zD a) := by
 obtain ⟨h1, h2, h3⟩ := yE h
 have k : (10 : Nat) ^ 9 = 1000000000 := by decide
 exact ⟨by rw [(Z1 h1).1, k]; omega, by rw [(Z1 h1).2, k]; omega⟩
def sk : List AV → Option (List zk × AV)
 | [.str a] => some ([.p (Zy a = true)], .tup 2 (zw [.agg 2 (zw [.i (zj a), .i (zn a : Int)]), .b true]))
 | _ => none
theorem KV : zO Tryz.prog [] 55 sk := by
 intro xs ps r h hp
 unfold sk at h
 split at h
 ·rename_i a
  cases h
  have q : Zy a = true := hp _ List.mem_cons_self
  have := mT a (by have := (yE q).1; exact YR (k := 9) ⟨this, J3 q⟩ (by decide) (by decide))
  rw [q] at this
  exact this
 ·cases h
def QN : List AV → Option (List zk × AV)
 | [.str a, .str b] => some ([.p (Zy a = true), .p (Zy b = true)], .tup 2 (zw [.i (xL (zj a * (zn b : Int)) (zj b * (zn a : Int))), .i 0]))
 | _ => none
theorem L1 (a : List UInt8) (b : List UInt8) (ha : Zy a = true) (hc : Zy b = true) :
 Zv [AV.str a, AV.str b] → Zy a = true ∧ Zy b = true ∧ bF (dK (zj a * (cI (zn b)))) (bF (dK (zj b * (cI (zn a)))) (j2 ∧ (True ∧ kI ∧ xL (zj a * (cI (zn b))) (zj b * (cI (zn a))) = xL (zj a * (cI (zn b))) (zj b * (cI (zn a)))) ∧ kI ∧ iZ = iZ)) := by
 delta bF dK cI kI j2 iZ
 intro hb
 simp only [sS, Yw, yQ, zm, dS]
 obtain ⟨a1, a2, a3⟩ := yE ha
 obtain ⟨b1, b2, b3⟩ := yE hc
 have m1 := Yt (a := zj a) (b := (zn b : Int)) ⟨by omega, by omega⟩ ⟨by omega, by omega⟩
 have m2 := Yt (a := zj b) (b := (zn a : Int)) ⟨by omega, by omega⟩ ⟨by omega, by omega⟩
 exact ⟨ha, hc, ⟨by omega, by omega⟩, ⟨by omega, by omega⟩, rfl⟩
theorem jF (a : List UInt8) (b : List UInt8) (ha : Zy a = true) (hc : Zy b = true) : zU Tryz.prog [] 29 [.str a, .str b] (.tup 2 (zw [.i (xL (zj a * (zn b : Int)) (zj b * (zn a : Int))), .i 0])) :=
 zW (T := (T0.plus 55 sk).plus 56 uk) (an := .auto) mixed (zz.plus (zz.plus zo KV) qB) (Eq.mp (by kernel_rfl) (L1 a b ha hc))
theorem jj : zO Tryz.prog [] 29 QN := by
 intro xs ps r h hp
 unfold QN at h
 split at h
 ·skip
  rename_i a b
  cases h
  obtain ⟨q0, q1, -⟩ := ZH hp
  exact weaken (ys := [.str a, .str b]) ⟨zT _, zT _, trivial⟩ (jF a b q0 q1)
 ·cases h
theorem PR {q : Rat} (h1 : q.num.natAbs ≤ 99999999) (h2 : q.den ≤ 99999999) : Zy (zt q) = true := by
 obtain ⟨e1, e2⟩ := wO q
 have k : (10 : Nat) ^ 9 = 1000000000 := by decide
 exact LI (Pz (k := 9) (by decide) ⟨by rw [k]; omega, by rw [k]; omega⟩ (by decide)) (by rw [e1]; exact h1) (by rw [e2]; exact h2)
def mB (r : Nat → AV) : Bool := zS.ok (α := Tm) r && (Nat.ble (zS.dec (α := Tm) r).q.num.natAbs RM && Nat.ble (zS.dec (α := Tm) r).q.den RM)
def t8 (r s : Nat → AV) : Int := W9 (zS.dec (α := Tm) r).q (zS.dec (α := Tm) s).q
theorem lK (x : Tm) (y : Tm) (h1 : Zy (zt x.q) = true) (h2 : Zy (zt y.q) = true) :
 Zv [AV.agg 2 (zS.enc x), AV.agg 2 (zS.enc y)] → Zy (zt (Tm.q x)) = true ∧ Zy (zt (Tm.q y)) = true ∧ kI ∧ xL (zj (zt (Tm.q x)) * (cI (zn (zt (Tm.q y))))) (zj (zt (Tm.q y)) * (cI (zn (zt (Tm.q x))))) = W9 (Tm.q x) (Tm.q y) := by
 delta cI kI
 intro hb
 simp only [sS, Yw, yQ, zm, dS]
 refine ⟨h1, h2, ?_⟩
 have := O4 (yE h1).1 (yE h2).1
 rw [zm, zm] at this
 exact this
theorem jH (x : Tm) (y : Tm) (h1 : Zy (zt x.q) = true) (h2 : Zy (zt y.q) = true) : zU Tryz.prog [] 49 [xR x, xR y] (.i (W9 x.q y.q)) :=
 zW (T := T0.plus 29 QN) (an := .auto) mixed (zz.plus zo jj) (Eq.mp (by kernel_rfl) (lK x y h1 h2))
theorem NJ : lV Tryz.prog 2 49 mB t8 where
 pos := by decide
 ent := enters_of Tryz.func49 (by kernel_rfl) rfl
 call := fun r s hr hs => by
  unfold mB at hr hs
  rw [Bool.and_eq_true, Bool.and_eq_true] at hr hs
  have ar : yp Tm (.agg 2 r) = true := hr.1
  have a2 : yp Tm (.agg 2 s) = true := hs.1
  exact weaken (ys := [_, _]) ⟨Zt ar, Zt a2, trivial⟩ (jH _ _ (PR (Nat.le_of_ble_eq_true hr.2.1) (Nat.le_of_ble_eq_true hr.2.2)) (PR (Nat.le_of_ble_eq_true hs.2.1) (Nat.le_of_ble_eq_true hs.2.2)))
 swo := fun els f => by
  have key : ∀ a b : Rat, W9 a b < 0 ↔ a < b := fun a b => by
   unfold W9
   split
   ·rename_i h; exact ⟨fun _ => h, fun _ => by decide⟩
   ·rename_i h
    split
    ·exact ⟨fun h => absurd h (by decide), fun e => absurd e h⟩
    ·exact ⟨fun h => absurd h (by decide), fun e => absurd e h⟩
  refine ⟨fun x => ?_, fun x y z h1 h2 => ?_, fun x y z h1 h2 => ?_⟩ <;>
   simp only [ltOf, t8, decide_eq_true_eq, decide_eq_false_iff_not, key, Rat.not_lt] at *
  ·exact Rat.le_refl
  ·grind
  ·grind
def KN := SR 2 49 mB t8
theorem oe (G : List (Nat × Obj)) : tO Tryz.prog G 48 KN :=
 Ot (enters_of Tryz.func48 (by kernel_rfl) rfl) nS OJ NJ G
end Go.Te

namespace Go.Te
open Go Go.Sx Go.Proofs Go.Ar Go.RowKit
set_option maxRecDepth 100000
set_option maxHeartbeats 4000000
structure wk (l : List Tm) : Prop where
 len : l.length ≤ 256
 cs : ∀ t ∈ l, bq 60 t.c
 qs : ∀ t ∈ l, t.q ≠ 0 → OC (zt t.q)
 root : inT RM l
 cls : ∀ k, ∀ x ∈ XT (YU (l.take k)), bq 60 x.c
 out : (Zb l).length ≤ 16
def Ms (t : TypeId) (l : List Tm) : OB := .arr t 2 l.length fun i j => zS.enc (l.getD i zS.dflt) j
def IP : OB → List Tm
 | .arr _ _ n els => (List.range n).map fun i => zS.dec (els i)
 | _ => []
def uE : AV → Nat
 | .np k _ => k
 | _ => 0
def Ih : AV → Nat
 | .fn _ _ first _ _ => uE (first 0)
 | _ => 0
noncomputable def ID (G : List (Nat × Obj)) : Tb := Tb.own1 ((((((((WA G).plus 43 Sa).plus 44 (Yj fun s => .b (zJ s))).plus 83 uo).plus 47 uq).plus 40 U5).plus 74 U9).plus 84 T9 |>.plus 29 qY) 48 KN
theorem Qq {G : List (Nat × Obj)} (hG : zN G) : zz Tryz.prog (ID G) := zz.own1 (zz.plus (zz.plus (zz.plus (zz.plus (zz.plus (zz.plus (zz.plus (zz.plus zo (Qj hG)) (zO.mono sD)) (PT hG)) (pF hG)) (Sg hG)) (R8 hG)) (kS hG)) (Mn hG)) (oe G)
def cellAt (B : OB) (i : Nat) : AV :=
 match B with
 | .box _ _ cs => cs i
 | _ => .junk
def rD (x y : AV) : Tm := ⟨zD (AV.bytes x), zD (AV.bytes y)⟩
def YM (x t : Tm) : Tm × Tm := if t.q < x.q then (t, x) else (x, t)
theorem yY (a b : zI) : rD (.str a) (.str b) = ⟨zD a, zD b⟩ := rfl
theorem ye (t : TypeId) (l : List Tm) : IP (OB.arr t 2 l.length fun i j => zS.enc (l.getD i zS.dflt) j) = l := by
 have e : ((List.range l.length).map fun i => zS.dec (α := Tm) (fun j => zS.enc (l.getD i zS.dflt) j)) = l := by
  apply List.ext_getElem
  ·simp
  ·intro i h1 h2
   rw [List.getElem_map, List.getElem_range, List.getD_eq_getElem?_getD, List.getElem?_eq_getElem h2]
   exact yc.dec _
 exact e
def km : yq := .two .auto (.two .auto (.two (.one (.two .auto (.two .auto (.two .auto (.two .auto (.two .auto
 (.join (Tm × Tm) (fun σ _ => [(0, σ.tm 0), (5, σ.tm 5), (6, σ.tm 6), (10, σ.tm 10)]) (fun σ z => [(uE (σ.tm 6), .box 79 2 (zS.enc z.1)), (uE (σ.tm 10), .box 79 2 (zS.enc z.2))]) 0
  (fun σ z => z = YM (rD (cellAt (σ.bl (uE (σ.tm 6))) 0) (cellAt (σ.bl (uE (σ.tm 6))) 1)) (rD (cellAt (σ.bl (uE (σ.tm 10))) 0) (cellAt (σ.bl (uE (σ.tm 10))) 1))) .auto .auto))))))) .auto))
def L5  : yq :=
 .two .auto (.two (.two .auto (.one (.loop Nat (fun σ z => [(0, σ.tm 0), (3, σ.tm 3), (17, σ.tm 17), (18, σ.tm 18), (19, .i (z : Int))]) (fun σ z => []) 0 (fun σ z => z ≤ (IP (σ.bl (Yl (σ.tm 17)))).length ∧ ∀ j, j < z → yw (yR (α := Tm) (σ.tm 1)).q ((IP (σ.bl (Yl (σ.tm 17)))).getD j zS.dflt).q = false) (fun σ z => (IP (σ.bl (Yl (σ.tm 17)))).length - z) km))) .auto)
def ZV (l : List Tm) (k : Nat) : List Tm := XT (YU (l.take k))
def lD : yq := .two .auto (.two .auto (.two (.one (.two .auto (.two .auto (.two .auto
 (.join (Rat × Rat) (fun σ z => [(1, σ.tm 1), (6, σ.tm 6), (11, σ.tm 11), (12, σ.tm 12), (13, σ.tm 13), (7, .str (zt z.1)), (8, .str (zt z.2)), (9, .i 0)]) (fun _ _ => []) 0
  (fun σ z => z.1 = nK (rD (cellAt (σ.bl (uE (σ.tm 6))) 0) (cellAt (σ.bl (uE (σ.tm 6))) 1)).q ∧ z.2 = nL (rD (cellAt (σ.bl (uE (σ.tm 6))) 0) (cellAt (σ.bl (uE (σ.tm 6))) 1)).q) .auto .auto))))) .auto))
def kc (l : List Tm) : yq :=
 .two .auto (.two (.two .auto (.one (.loop Nat (fun σ z => [(1, σ.tm 1), (11, σ.tm 11), (12, σ.tm 12), (13, .i (z : Int))]) (fun σ z => [(Ih (σ.tm 1), .box 75 1 fun _ => .ns σ.nb 0 (ZV l z).length), (σ.nb, Ms 79 (ZV l z))]) 1 (fun σ z => z ≤ l.length) (fun σ z => l.length - z) lD))) .auto)
def y7 (l : List Tm) (k : Nat) : List Tm := ((ZV l l.length).take k).filter fun t => decide (t.c ≠ 0)
def jY (l : List Tm) : yq :=
 .two .auto (.two .auto (.two (.two .auto (.one (.loop Nat (fun σ z => [(0, σ.tm 0), (16, σ.tm 16), (17, σ.tm 17), (18, .i (z : Int))]) (fun σ z => []) 0 (fun σ z => z ≤ l.length) (fun σ z => l.length - z) .auto))) (.two .auto (.two .auto (.two .auto (.two (.two .auto (.one (.loop Nat (fun σ z => [(45, σ.tm 45), (46, σ.tm 46), (10, .ns σ.nb 0 (y7 l z).length), (47, .i (z : Int))]) (fun σ z => [(σ.nb, Ms 49 (y7 l z))]) 1 (fun σ z => z ≤ (ZV l l.length).length) (fun σ z => (ZV l l.length).length - z) .auto))) .auto))))))
theorem xb (x : Tm) : yR (AV.agg 2 fun i => zS.enc x i) = x := WN x
theorem YJ (x : Tm) : yp Tm (AV.agg 2 fun i => zS.enc x i) = true := X7 x
theorem uV (a b : Rat) : W9 a b < 0 ↔ a < b := by
 unfold W9
 split
 ·rename_i h; exact ⟨fun _ => h, fun _ => by decide⟩
 ·rename_i h
  split
  ·exact ⟨fun h => absurd h (by decide), fun e => absurd e h⟩
  ·exact ⟨fun h => absurd h (by decide), fun e => absurd e h⟩
theorem rf (l : List Tm) (x : Tm) : YU (l ++ [x]) = YU l ++ if x.c = 0 ∨ x.q = 0 then [] else [xx x] := by
 unfold YU
 rw [List.filter_append, List.map_append]
 congr 1
 by_cases h1 : x.c = 0
 ·rw [if_pos (.inl h1)]; simp [h1]
 ·by_cases h2 : x.q = 0
  ·rw [if_pos (.inr h2)]; simp [h2]
  ·rw [if_neg (by simp [h1, h2])]; simp [h1, h2]
theorem Uj {l : List Tm} {z : Nat} (h : z < l.length) : l.take (z + 1) = l.take z ++ [l.getD z zS.dflt] := oz (d := zS.dflt) h
theorem Pj {l : List Tm} {z : Nat} (h : z < l.length) (h0 : (l.getD z zS.dflt).c = 0 ∨ (l.getD z zS.dflt).q = 0) : ZV l (z + 1) = ZV l z := by
 unfold ZV
 rw [Uj h, rf, if_pos h0, List.append_nil]
theorem PM {l : List Tm} {z : Nat} (h : z < l.length) (h0 : ¬((l.getD z zS.dflt).c = 0 ∨ (l.getD z zS.dflt).q = 0)) : ZV l (z + 1) = wn (ZV l z) (xx (l.getD z zS.dflt)) := by
 unfold ZV
 rw [Uj h, rf, if_neg h0, tc]
theorem pz (t : Tm) : xx t = ⟨t.c * nK t.q, nL t.q⟩ := rfl
theorem mG : nK 1 = 1 ∧ nL 1 = 1 := by decide +kernel
theorem Hy {q : Rat} (h : OC (zt q)) : 0 < q ∧ mQ q < 10 ^ 17 ∧ bq 17 (nK q) := by
 have hp := h.pos
 have hl := h.len
 rw [zm] at hp hl
 have hn : 0 < q.num := by
  have := Rat.num_nonneg.2 (Rat.le_of_lt hp)
  have h2 : q.num ≠ 0 := fun e => (Rat.ne_of_gt hp) (Rat.num_eq_zero.1 e)
  omega
 have b1 := wE q.num
 have b2 := wE (q.den : Int)
 have e2 : xa (q.den : Int) = Lib.nDigits q.den := by unfold xa; rw [Int.natAbs_natCast]
 rw [e2, Int.natAbs_natCast] at b2
 have b3 : q.num.natAbs * q.den < 10 ^ 17 := by
  refine Nat.lt_of_lt_of_le (Nat.mul_lt_mul'' b1 b2) ?_
  rw [← Nat.pow_add]
  exact Nat.pow_le_pow_right (by omega) hl
 have em : mQ q = q.num.natAbs * q.den := by unfold mQ; rw [show q.num.toNat = q.num.natAbs by omega]
 rw [← em] at b3
 have hd : q.den < 10 ^ 17 := Nat.lt_of_lt_of_le b2 (Nat.pow_le_pow_right (by omega) (by omega))
 exact ⟨hp, b3, vh q.den_pos (by rw [Int.natAbs_natCast]; exact Nat.lt_of_le_of_lt (W8 (Vx hp)).2.2 b3) hd⟩
theorem wK {R : Nat} {x : Tm} (h : ZZ R x) (hR : R < 100000000) : bq 8 x.q ∧ 0 < x.q ∧ x.q.den = 1 ∧ x.q.num.natAbs ≤ R := by
 obtain ⟨r, e, h0, h1⟩ := h
 have k : (10 : Nat) ^ 8 = 100000000 := by decide
 rw [e]
 refine ⟨⟨by rw [Rat.num_natCast, Int.natAbs_natCast, k]; omega, by rw [Rat.den_natCast, k]; omega⟩, ?_, Rat.den_natCast r, by rw [Rat.num_natCast, Int.natAbs_natCast]; exact h1⟩
 exact Rat.lt_of_le_of_ne Rat.natCast_nonneg fun e => by have := Rat.natCast_eq_zero_iff.1 e.symm; omega
theorem Qz {x y : Tm} (hx : ZZ RM x) (hy : ZZ RM y) : Kl (zt x.q) (zt y.q) := by
 obtain ⟨b1, p1, d1, n1⟩ := wK hx (by decide)
 obtain ⟨b2, p2, d2, n2⟩ := wK hy (by decide)
 have key : bq 8 (x.q / y.q) := by
  obtain ⟨r, e, h0, h1⟩ := hx
  obtain ⟨s, e2, g0, g1⟩ := hy
  have k : (10 : Nat) ^ 8 = 100000000 := by decide
  have : x.q / y.q = mkRat (r : Int) s := by rw [e, e2, Rat.mkRat_eq_div]; rfl
  rw [this]
  exact vh g0 (by rw [Int.natAbs_natCast, k]; exact Nat.lt_of_le_of_lt h1 (by decide)) (by rw [k]; exact Nat.lt_of_le_of_lt g1 (by decide))
 refine ⟨⟨(ZL (by decide) (by decide)).2 (b1.mono (by decide)), ?_⟩, ⟨(ZL (by decide) (by decide)).2 (b2.mono (by decide)), ?_⟩, ?_, ?_, ?_⟩
 ·rw [zm]; exact Rat.le_of_lt p1
 ·rw [zm]; exact Rat.le_of_lt p2
 ·rw [zm]; exact p2
 ·rw [zm, zm]; exact Nat.le_trans (Ya (k := 8) (by decide) key.num) (by decide)
 ·rw [zm, zm]; exact Nat.le_trans ((z7 (k := 8) (by decide)).2 key.den) (by decide)
theorem mX {x y : Tm} (hx : ZZ RM x) (hy : ZZ RM y) (h : yw x.q y.q = true) : yw y.q x.q = true := by
 cases hb : yw y.q x.q with
 | true => rfl
 | false =>
  have := (Wr hx hy (by decide)).2 ((Wr hy hx (by decide)).1 hb).symm
  rw [h] at this
  cases this
theorem KX (x t : Tm) : yr x t = ⟨(YM x t).1.c + (YM x t).2.c * ww (YM x t).2.q (YM x t).1.q, (YM x t).1.q⟩ := by
 unfold yr YM
 split <;> rfl
theorem oM {l : List Tm} {z : Nat} (h : z < (ZV l l.length).length) : y7 l (z + 1) = y7 l z ++ if ((ZV l l.length).getD z zS.dflt).c = 0 then [] else [(ZV l l.length).getD z zS.dflt] := by
 unfold y7
 rw [Uj h, List.filter_append]
 congr 1
 generalize (ZV l l.length).getD z zS.dflt = x
 by_cases h1 : x.c = 0
 ·rw [if_pos h1]; simp [h1]
 ·rw [if_neg h1]; simp [h1]
theorem rx (l : List Tm) : ZV l l.length = XT (YU l) := by unfold ZV; rw [List.take_length]
theorem NT (l : List Tm) : y7 l (ZV l l.length).length = Yo l := by
 unfold y7 Yo
 rw [List.take_length, rx]
theorem yd {l : List Tm} {i : Nat} (h : i < l.length) : l.getD i zS.dflt ∈ l := by
 rw [List.getD_eq_getElem?_getD, List.getElem?_eq_getElem h]
 exact List.getElem_mem h
theorem pk (l : List Tm) (x : Tm) (i j : Nat) (hi : i < l.length + 1) : zb (if i < l.length then zS.enc (l.getD i zS.dflt) j else zw [AV.str (zt x.c), AV.str (zt x.q)] j) (zS.enc ((l ++ [x]).getD i zS.dflt) j) := by
 by_cases h : i < l.length
 ·rw [if_pos h, show (l ++ [x]).getD i zS.dflt = l.getD i zS.dflt by simp [List.getD_eq_getElem?_getD, List.getElem?_append_left h]]
  exact zT _
 ·obtain rfl : i = l.length := by omega
  rw [if_neg h, show (l ++ [x]).getD l.length zS.dflt = x by simp [List.getD_eq_getElem?_getD]]
  exact zT _
theorem HD (l : List Tm) (k : Nat) (x : Tm) (hk : k < l.length) (i j : Nat) (hj : j < 2) : zb (if i = k ∧ j < 2 then (if j < 2 then zS.enc x j else Z3 (Value.agg #[Value.string ⟨#[]⟩, Value.string ⟨#[]⟩]) j) else zS.enc (l.getD i zS.dflt) j) (zS.enc ((l.set k x).getD i zS.dflt) j) := by
 by_cases e : i = k
 ·subst e
  rw [if_pos ⟨rfl, hj⟩, if_pos hj, show (l.set i x).getD i zS.dflt = x by simp [List.getD_eq_getElem?_getD, hk]]
  exact zT _
 ·rw [if_neg fun h => e h.1, show (l.set k x).getD i zS.dflt = l.getD i zS.dflt by simp [List.getD_eq_getElem?_getD, List.getElem?_set_ne (Ne.symm e)]]
  exact zT _
noncomputable def gv (G : List (Nat × Obj)) (l : List Tm) : Tb := ((ID G).body Tryz.prog [(46, L5)]).body Tryz.prog [(45, kc l)]
theorem PL {G : List (Nat × Obj)} (hG : zN G) (l : List Tm) : zz Tryz.prog (gv G l) := zz.body mixed (zz.body mixed (Qq hG) _) _
theorem mr {l : List Tm} (h : wk l) (z : Nat) : (ZV l z).length ≤ l.length ∧ ∀ x ∈ ZV l z, ZZ RM x ∧ bq 60 x.c := by
 obtain ⟨_, g2, _, g4, _⟩ := vq (R := RM) (by decide) (l := l.take z) fun t ht => h.root t (List.mem_of_mem_take ht)
 exact ⟨Nat.le_trans g4 (by rw [List.length_take]; omega), fun x hx => ⟨g2 x hx, h.cls z x hx⟩⟩
theorem lP {l : List Tm} (h : wk l) {p : List Nat} (hp : p.Perm (List.range (Yo l).length)) (hs : p.Pairwise fun i j => ¬ t8 (fun k => zS.enc ((Yo l).getD j zS.dflt) k) (fun k => zS.enc ((Yo l).getD i zS.dflt) k) < 0) :
  Zb l = p.map fun i => (Yo l).getD i zS.dflt := by
 obtain ⟨g1, g2, _, _, _⟩ := vq (R := RM) (by decide) h.root
 have e : ((List.range (Yo l).length).map fun i => (Yo l).getD i zS.dflt) = Yo l := by
  apply List.ext_getElem
  ·simp
  ·intro i h1 h2
   rw [List.getElem_map, List.getElem_range, List.getD_eq_getElem?_getD, List.getElem?_eq_getElem h2]
   rfl
 have hpp := hp.map fun i => (Yo l).getD i zS.dflt
 rw [e] at hpp
 refine (QU (R := RM) (l := Yo l) (fun x hx => g2 x (List.mem_filter.1 hx).1) (g1.filter _) hpp ?_).symm
 rw [List.pairwise_map]
 refine hs.imp fun {i j} hij => ?_
 have e1 : ∀ x : Tm, zS.dec (α := Tm) (fun k => zS.enc x k) = x := fun x => yc.dec x
 unfold t8 at hij
 rw [e1, e1, uV] at hij
 exact Rat.not_lt.1 hij
def tD : List AV → Option (List zk × AV)
 | [x_l] => some ([.b (zC Tm x_l), .p (wk (Ze (α := Tm) x_l))], .tup 2 (zw [ZD (Zb (Ze (α := Tm) x_l)), .i 0]))
 | _ => none
theorem Ja (G : List (Nat × Obj)) (l : List Tm) (h : wk l) :
 let q2 := (True ∧ Value.slice (X9 Addr) 0 0 = Value.slice (X9 Addr) 0 0 ∧ lN (Zb l) = 0); let q1 := (j2 ∧ q2 ∧ kI ∧ (4 : Int) = iZ); let q3 := (AV.xl false 2 (lN l) fun i j => zS.enc (gD l i zS.dflt) j); let q4 := (kI ∧ (lZ l) = (lZ l)); let q7 := (AV.fn (Fn.func 46) 1 (fun i => Option.getD [AV.np (nat_lit 0) 0][i]? AV.junk) 0 fun (i : Nat) => AV.junk); let q12 := (ByteArray.data (ByteArray.mk #[(48 : UInt8)])); let q15 := (ByteArray.data (ByteArray.mk #[(49 :
 UInt8)])); Zv [AV.xl false 2 (lN l) fun i j => zS.enc (gD l i zS.dflt) j] → zZ (zF (256 : Int) (lZ l)) q1 ((∃ (z : Nat), (z ≤ lN l ∧ zb q3 q3 ∧ zb q3 q3 ∧ q4 ∧ kI ∧ iZ = (cI z)) ∧ True) ∧ ∀ (z : Nat), let q5 := (gD l (Int.toNat (cI z)) zS.dflt); let q6 := (zt (Tm.q q5)); z ≤ lN l → zZ (zF (cI z) (lZ l)) (bF (DB.db (iZ ≤ (cI z) ∧ (cI z) < (lZ l))) (Yk 300 (zt (Tm.c q5)) ∧ Yk 300 q6 ∧ zZ (zJ q6) (2 = lN [AV.junk,
 AV.junk] ∧ q2 ∧ kI ∧ (2 : Int) = iZ) (bF (dK ((cI z) + iO)) (∃ (z' : Nat), ((z' ≤ lN l ∧ lN l - z' < lN l - z) ∧ zb q3 q3 ∧ zb q3 q3 ∧ q4 ∧ kI ∧ (cI z) + iO = (cI z')) ∧ True)))) ((∃ (z : Nat), (z ≤ lN l ∧ zb q7 q7 ∧ zb q3 q3 ∧ q4 ∧ kI ∧ iZ = (cI z)) ∧ ((75 : TypeId) = 75 ∧ 1 = 1 ∧ some (X9 Nat) = some (X9 Nat) ∧ 0 = 0 ∧ lN (ZV l z) = 0) ∧ lN (ZV l z) = 0) ∧ ∀ (z : Nat), let q11 := (gD l (Int.toNat (↑z :
 Int)) zS.dflt); let q10 := (Tm.c q11); let q9 := (zt q10 == Array.toList q12); let q8 := (!zr false q9 || zr false q9); let q13 := (Tm.q q11); let q14 := (dK ((cI z) + iO)); let q16 := (zt q13); let q18 := (zt q10); let q17 := (Tm.q (rD (AV.str q18) (AV.str q16))); let q19 := (kI ∧ (cI z) = (cI z)); let q20 := (zD q16); let q21 := ((75 = 75 ∧ 1 = 1 ∧ nat_lit 1 = 1 ∧ 0 = 0 ∧ lN (ZV l z) = lN (ZV l z)) ∧ 79 = 79 ∧ 2 = 2 ∧ lN (ZV l z) = lN (ZV l z) ∧ ∀ (i j : Nat), let q22 := (zS.enc
 (gD (ZV l z) i zS.dflt) j); i < lN (ZV l z) → j < 2 → zb q22 q22); let q23 := (IP (OB.arr (79 : TypeId) 2 (lN (ZV l z)) fun i j => zS.enc (gD (ZV l z) i zS.dflt) j)); let q27 := (nat_lit 1 = 1 ∧ 0 = 0 ∧ lN (ZV l z) = lN (ZV l z)); let q28 := (kI ∧ (lZ (ZV l z)) = (lZ (ZV l z))); let q29 := (q21 ∧ 49 = 49 ∧ 2 = 2 ∧ zt q10 = zt q10 ∧ zt q13 = zt q13); let q45 := (DB.db ((lN (ZV l z) + 1) * 32 ≤ 140737488355328)); z ≤ lN l → zZ (zF (cI z)
 (lZ l)) (bF (DB.db (iZ ≤ (cI z) ∧ (cI z) < (lZ l))) (bF q8 (bF q8 (bF (!!zt q10 == Array.toList q12 || zr false q9) (zZ (bif zt q10 == Array.toList q12 then true else zt q13 == Array.toList q12) (bF q14 (∃ (z' : Nat), ((z' ≤ lN l ∧ lN l - z' < lN l - z) ∧ zb q7 q7 ∧ zb q3 q3 ∧ q4 ∧ kI ∧ (cI z) + iO = (cI z')) ∧ (75 = 75 ∧ 1 = 1 ∧ nat_lit 1 = 1 ∧ 0 = 0 ∧ lN (ZV l z') = lN (ZV l z)) ∧ 79 = 79 ∧ 2 = 2 ∧ lN (ZV l z') =
 lN (ZV l z) ∧ ∀ (i j : Nat), i < lN (ZV l z) → j < 2 → zb (zS.enc (gD (ZV l z) i zS.dflt) j) (zS.enc (gD (ZV l z') i zS.dflt) j))) (zZ (!zt q13 == Array.toList q15) (OC q16 ∧ ∃ (z_1 : Rat × Rat), ((Prod.fst z_1 = nK q17 ∧ Prod.snd z_1 = nL q17) ∧ zb q7 q7 ∧ (nat_lit 2 = 2 ∧ 0 = 0) ∧ zb q3 q3 ∧ q4 ∧ q19 ∧ zt (nK q20) = zt (Prod.fst z_1) ∧ zt (nL q20) = zt (Prod.snd z_1) ∧ kI ∧ iZ = iZ) ∧ q21 ∧ 49 = 49 ∧ 2 = 2 ∧ zt q10 = zt q10 ∧ zt q13 = zt q13) (∃ (z_1 : Rat × Rat), ((Prod.fst z_1 = nK q17
 ∧ Prod.snd z_1 = nL q17) ∧ zb q7 q7 ∧ (nat_lit 2 = 2 ∧ 0 = 0) ∧ zb q3 q3 ∧ q4 ∧ q19 ∧ Array.toList q15 = zt (Prod.fst z_1) ∧ zt q13 = zt (Prod.snd z_1) ∧ kI ∧ iZ = iZ) ∧ q21 ∧ 49 = 49 ∧ 2 = 2 ∧ zt q10 = zt q10 ∧ zt q13 = zt q13) ∧ ∀ (z_1 : Rat × Rat), let q26 := (zD q18 * zD (zt (Prod.fst z_1))); let q25 := (zt q26); let q24 := (Tm.q (yR (AV.agg 2 (zw [AV.str q25, AV.str (zt (Prod.snd z_1))])))); let q37 := (rD (AV.str q25) (AV.str (zt (Prod.snd z_1)))); let q39 := (q29 ∧ 49 = 49 ∧ 2 = 2 ∧ zt q26 = zt q26 ∧ zt (Prod.snd z_1) =
 zt (Prod.snd z_1)); let q46 := (bF q14 (∃ (z' : Nat), ((z' ≤ lN l ∧ lN l - z' < lN l - z) ∧ zb q7 q7 ∧ zb q3 q3 ∧ q4 ∧ kI ∧ (cI z) + iO = (cI z')) ∧ (75 = 75 ∧ 1 = 1 ∧ nat_lit 1 = 1 ∧ 0 = 0 ∧ lN (ZV l z') = lN (ZV l z) + 1) ∧ (79 : TypeId) = 79 ∧ 2 = 2 ∧ lN (ZV l z') = lN (ZV l z) + 1 ∧ ∀ (i j : Nat), i < lN (ZV l z) + 1 → j < 2 → zb (if i < lN (ZV l z) then zS.enc (gD (ZV l z) i zS.dflt) j else Sx.rowAt [zw [AV.str q25, AV.str (zt (Prod.snd
 z_1))]] (i - lN (ZV l z)) j) (zS.enc (gD (ZV l z') i zS.dflt) j))); Prod.fst z_1 = nK q17 ∧ Prod.snd z_1 = nL q17 → (zr false (iZ != iZ) = true → Yk 300 (zt (Prod.snd z_1))) ∧ zZ (bif iZ != iZ then true else zF (90 : Int) (wd (zD (zt (Prod.snd z_1))))) q1 (Oo 140 q18 (zt (Prod.fst z_1)) ∧ (∃ (z_2 : Nat), ((z_2 ≤ lN q23 ∧ ∀ (j : Nat), j < z_2 → yw q24 (Tm.q (gD q23 j zS.dflt)) = false) ∧ (nat_lit 0 = 0 ∧ 0 = 0) ∧ (nat_lit 3 = 3 ∧ 0 = 0) ∧ q27 ∧ q28 ∧ kI ∧ iZ = (cI z_2)) ∧ q29 ∧
 49 = 49 ∧ 2 = 2 ∧ zt q26 = zt q26 ∧ zt (Prod.snd z_1) = zt (Prod.snd z_1)) ∧ ∀ (z_2 : Nat), let q30 := (DB.db (iZ ≤ (cI z_2) ∧ (cI z_2) < (lZ (ZV l z)))); let q33 := (gD (ZV l z) (0 + Int.toNat (cI z_2)) zS.dflt); let q32 := (Tm.q q33); let q31 := (zt q32); let q34 := (zD q31); let q36 := (Tm.c q33); let q35 := (rD (AV.str (zt q36)) (AV.str q31)); let q38 := (kI ∧ (cI z_2) = (cI z_2)); (z_2 ≤ lN q23 ∧ ∀ (j : Nat), j < z_2 → yw q24 (Tm.q (gD q23 j zS.dflt)) = false) → zZ (zF (↑z_2 :
 Int) (lZ (ZV l z))) (bF q30 (Kl (zt (Prod.snd z_1)) q31 ∧ zZ (!yw (zD (zt (Prod.snd z_1))) q34) (bF (dK ((cI z_2) + iO)) (∃ (z' : Nat), (((z' ≤ lN q23 ∧ ∀ (j : Nat), j < z' → yw q24 (Tm.q (gD q23 j zS.dflt)) = false) ∧ lN q23 - z' < lN q23 - z_2) ∧ (nat_lit 0 = 0 ∧ 0 = 0) ∧ (nat_lit 3 = 3 ∧ 0 = 0) ∧ q27 ∧ q28 ∧ kI ∧ (cI z_2) + iO = (cI z')) ∧ q29 ∧ 49 = 49 ∧ 2 = 2 ∧ zt q26 = zt q26 ∧ zt (Prod.snd z_1) = zt (Prod.snd z_1))) ((Oo 140 (zt (Prod.snd
 z_1)) q31 ∧ zZ (zF (W9 (zD (zt (Prod.snd z_1))) q34) iZ) (∃ (z_3 : Tm × Tm), (z_3 = YM q35 q37 ∧ (nat_lit 0 = 0 ∧ 0 = 0) ∧ q38 ∧ (nat_lit 4 = 4 ∧ 0 = 0) ∧ nat_lit 5 = 5 ∧ 0 = 0) ∧ (q39 ∧ (79 : TypeId) = 79 ∧ 2 = 2 ∧ zt q26 = zt (Tm.c (Prod.fst z_3)) ∧ zt (Prod.snd z_1) = zt (Tm.q (Prod.fst z_3))) ∧ (79 : TypeId) = 79 ∧ 2 = 2 ∧ zt q36 = zt (Tm.c (Prod.snd z_3)) ∧ zt q32 = zt (Tm.q (Prod.snd z_3))) (∃ (z_3 : Tm × Tm), (z_3 = YM q35 q37 ∧ (nat_lit 0 = 0 ∧ 0 = 0) ∧ q38 ∧ (nat_lit 4 = 4 ∧ 0 = 0) ∧ nat_lit 5 = 5 ∧ 0 = 0) ∧ (q39 ∧ (79 : TypeId) = 79 ∧ 2 = 2 ∧
 zt q36 = zt (Tm.c (Prod.fst z_3)) ∧ zt q32 = zt (Tm.q (Prod.fst z_3))) ∧ (79 : TypeId) = 79 ∧ 2 = 2 ∧ zt q26 = zt (Tm.c (Prod.snd z_3)) ∧ zt (Prod.snd z_1) = zt (Tm.q (Prod.snd z_3)))) ∧ ∀ (z_3 : Tm × Tm), let q40 := (AV.agg 2 fun (i : Nat) => zS.enc (Prod.fst z_3) (0 + i)); let q41 := (AV.agg 2 fun (i : Nat) => zS.enc (Prod.snd z_3) (0 + i)); z_3 = YM q35 q37 → bF (yp Tm q40) (bF (yp Tm q41) (ig (yR q40) (yR q41) ∧ bF q30 (bF q14 (∃ (z' : Nat), ((z' ≤ lN l ∧ lN l - z' < lN l - z) ∧ zb q7 q7 ∧ zb q3 q3 ∧ q4 ∧ IntKind.i64
 = .i64 ∧ (cI z) + iO = (cI z')) ∧ (75 = 75 ∧ 1 = 1 ∧ nat_lit 1 = 1 ∧ 0 = 0 ∧ lN (ZV l z') = lN (ZV l z)) ∧ 79 = 79 ∧ 2 = 2 ∧ lN (ZV l z') = lN (ZV l z) ∧ ∀ (i j : Nat), let q42 := (yR (AV.agg 2 fun (i : Nat) => zS.enc (Prod.fst z_3) (0 + i))); let q43 := (yR (AV.agg 2 fun (i : Nat) => zS.enc (Prod.snd z_3) (0 + i))); let q44 := (Tm.q q42); i < lN (ZV l z) → j < 2 → zb (if i = 0 + Int.toNat (cI z_2) ∧ 0 ≤ j ∧ j < 2 then if 0 ≤ 0 + (j - 0) ∧ 0 + (j - 0) < 2 then zS.enc (Tm.mk (Tm.c q42 + Tm.c q43 * ww (Tm.q q43)
 q44) q44) (0 + (j - 0) - 0) else Z3 (Value.agg #[Value.string (ByteArray.mk #[]), Value.string (ByteArray.mk #[])]) (0 + (j - 0)) else zS.enc (gD (ZV l z) i zS.dflt) j) (zS.enc (gD (ZV l z') i zS.dflt) j)))))))) (bF q45 q46 ∧ bF q45 q46)))))))) ((∃ (z_1 : Nat), (z_1 ≤ lN (ZV l (lN l)) ∧ q27 ∧ q28 ∧ (some (X9 Nat) = some (X9 Nat) ∧ 0 = 0 ∧ lN (y7 l z_1) = 0) ∧ kI ∧ iZ = (cI z_1)) ∧ q21 ∧ lN (y7 l z_1) = 0) ∧ ∀ (z_1 : Nat), let
 q48 := (gD (ZV l z) (0 + Int.toNat (cI z_1)) zS.dflt); let q47 := (Tm.c q48); let q49 := (dK ((cI z_1) + iO)); let q50 := (zt q47); let q53 := (wd (zD q50)); let q52 := (zF (60 : Int) q53); let q51 := (!zr false q52 || zr false q52); let q54 := (zt (Tm.q q48)); z_1 ≤ lN (ZV l (lN l)) → zZ (zF (cI z_1) (lZ (ZV l z))) (bF (DB.db (iZ ≤ (cI z_1) ∧ (cI z_1) < (lZ (ZV l z)))) (zZ (zt q47 == Array.toList q12) (bF q49 (∃ (z' : Nat), ((z' ≤ List.length
 (ZV l (lN l)) ∧ lN (ZV l (lN l)) - z' < lN (ZV l (lN l)) - z_1) ∧ q27 ∧ q28 ∧ (nat_lit 2 = 2 ∧ 0 = 0 ∧ lN (y7 l z') = lN (y7 l z_1)) ∧ kI ∧ (cI z_1) + iO = (cI z')) ∧ q21 ∧ 49 = 49 ∧ 2 = 2 ∧ lN (y7 l z') = lN (y7 l z_1) ∧ ∀ (i j : Nat), i < lN (y7 l z_1) → j < 2 → zb (zS.enc (gD (y7 l z_1) i zS.dflt) j) (zS.enc (gD (y7 l z') i zS.dflt) j))) (Yk 300 q50 ∧ bF q51 (bF q51 ((zr false q52 = true → Yk 300 q54) ∧ zZ q51
 (bF (!!zF (60 : Int) q53 || zr false q52) (zZ (bif zF (60 : Int) q53 then true else zF (40 : Int) (wd (zD q54))) q1 (bF (DB.db ((lN (y7 l z_1) + 1) * 32 ≤ 140737488355328)) (bF q49 (∃ (z' : Nat), ((z' ≤ lN (ZV l (lN l)) ∧ lN (ZV l (lN l)) - z' < lN (ZV l (lN l)) - z_1) ∧ q27 ∧ q28 ∧ (nat_lit 2 = 2 ∧ 0 = 0 ∧ lN (y7 l z') = lN (y7 l z_1) + 1) ∧ kI ∧ (cI z_1) + iO = (cI z')) ∧ q21 ∧ (49 : TypeId) = 49 ∧ 2 = 2 ∧ lN (y7 l z') = List.length
 (y7 l z_1) + 1 ∧ ∀ (i j : Nat), i < lN (y7 l z_1) + 1 → j < 2 → zb (if i < lN (y7 l z_1) then zS.enc (gD (y7 l z_1) i zS.dflt) j else Sx.rowAt [zw [AV.str q50, AV.str q54]] (i - lN (y7 l z_1)) j) (zS.enc (gD (y7 l z') i zS.dflt) j)))))) False))))) (zZ (zF (16 : Int) (lZ (y7 l z_1))) q1 (bF (Nat.beq (lN (y7 l z_1)) (lN (y7 l z_1)) && Nat.beq 2 2 && Nat.blt (nat_lit 2) (nat_lit 3) && Nat.beq 49 49) ((lN (y7 l z_1) < 4611686018427387904 ∧ ∀
 (i : Nat), i < lN (y7 l z_1) → (mB fun (j : Nat) => zS.enc (gD (y7 l z_1) i zS.dflt) j) = true) ∧ ∀ (p : List Nat), List.Perm p (List.range (lN (y7 l z_1))) ∧ List.Pairwise (fun i j => ¬(t8 (fun (j_1 : Nat) => zS.enc (gD (y7 l z_1) j zS.dflt) j_1) fun (j : Nat) => zS.enc (gD (y7 l z_1) i zS.dflt) j) < iZ) p → j2 ∧ (True ∧ zb (AV.xl false 2 (lN (y7 l z_1)) fun i j => zS.enc (gD (y7 l z_1) (gD p (0 + i) 0) zS.dflt) j) (AV.xl false 2 (lN (Zb l)) fun i j =>
 zS.enc (gD (Zb l) i zS.dflt) j)) ∧ kI ∧ iZ = iZ)))))) := by
 delta bF dK cI kI j2 lZ lN gD iZ iO
 dsimp only
 intro hb
 simp only [↓yx, ↓ZI, row_one]
 simp only [sS, Yw, yQ, zm, yY, ye, xb, YJ, dS]
 have hlen := h.len
 have mem : ∀ z, z < l.length → l.getD z zS.dflt ∈ l := fun z hz => yd hz
 have okq : ∀ q : Rat, (q ≠ 0 → OC (zt q)) → Yk 300 (zt q) := fun q hq => by
  by_cases h0 : q = 0
  ·rw [h0]; exact (ZL (by decide) (by decide)).2 ⟨by decide +kernel, by decide +kernel⟩
  ·exact (hq h0).ok.mono (by decide)
 refine ⟨fun h => by omega, fun _ => ⟨⟨0, Nat.zero_le _, rfl⟩, fun z hz => ⟨fun hlt => ?_, fun hge => ?_⟩⟩⟩
 ·have hm := mem z (by omega)
  have o1 : Yk 300 (zt (l.getD z zS.dflt).c) := (ZL (by decide) (by decide)).2 ((h.cs _ hm).mono (by decide))
  have o2 := okq _ (h.qs _ hm)
  have hm0 := sX o2.1 (by rw [zm]; exact (h.root _ hm).1)
  rw [hm0]
  exact ⟨⟨by omega, by omega⟩, o1, o2, zY.2 ⟨fun c => (by cases c), fun _ => ⟨by simp only [ZA]; omega, z + 1, ⟨by omega, by omega⟩, by omega⟩⟩⟩
 refine ⟨⟨0, ⟨Nat.zero_le _, rfl⟩, rfl, rfl⟩, fun z hz => ⟨fun hlt => ?_, fun hge => ?_⟩⟩
 ·have hz' : z < l.length := by omega
  have hm := mem z hz'
  obtain ⟨k1, k2⟩ := mr h z
  have s0 := Pj hz'
  have s1 := PM hz'
  have hc := h.cs _ hm
  have hq := h.qs _ hm
  have hv := Sy h.root
  have hin : ¬((l.getD z zS.dflt).c = 0 ∨ (l.getD z zS.dflt).q = 0) → ZZ RM (xx (l.getD z zS.dflt)) := fun hn => by
   refine hv.1 _ (List.mem_map.2 ⟨_, List.mem_filter.2 ⟨hm, ?_⟩, rfl⟩)
   simp only [not_or] at hn
   simp only [decide_eq_true_eq, Bool.and_eq_true]
   exact hn
  rw [X3, X3, tZ]
  generalize l.getD z zS.dflt = t at *
  refine ⟨⟨by omega, by omega⟩, zY.2 ⟨fun c => ?_, fun c => ?_⟩⟩
  ·have c : t.c = 0 ∨ t.q = 0 := by simpa using c
   have e := s0 c
   exact ⟨by simp only [ZA]; omega, z + 1, ⟨⟨by omega, by omega⟩, by omega⟩, by rw [e], by rw [e], fun i j _ _ => by rw [e]; exact zT _⟩
  have c : ¬(t.c = 0 ∨ t.q = 0) := by simpa using c
  have c2 := not_or.1 c
  have e := s1 c
  rw [pz] at e
  have hn := hin c
  rw [pz] at hn
  obtain ⟨r1, r2, r3⟩ := Hy (hq c2.2)
  refine ⟨zY.2 ⟨fun _ => ⟨hq c2.2, (nK t.q, nL t.q), ⟨⟨rfl, rfl⟩, rfl, rfl⟩, fun _ _ _ _ => trivial⟩, fun c3 => ⟨(nK t.q, nL t.q), ⟨⟨rfl, rfl⟩, ?_⟩, fun _ _ _ _ => trivial⟩⟩, fun y ⟨y1, y2⟩ => ?_⟩
  ·have c3 : t.q = 1 := by simpa using c3
   rw [c3, mG.1, mG.2]
   decide +kernel
  obtain ⟨ya, yb⟩ := y
  simp only at y1 y2 ⊢
  rw [← y1, ← y2] at e hn
  rw [← y1] at r3
  obtain ⟨b1, b2, b3, b4⟩ := wK hn (by decide)
  have b1 : bq 8 yb := b1
  have l90 : zF 90 (wd yb) = false := Bool.eq_false_iff.2 fun e => by
   have := (zp _ _).1 e
   have := vP (by decide) b1
   omega
  rw [l90]
  have okb : Yk 300 (zt yb) := (ZL (by decide) (by decide)).2 (b1.mono (by decide))
  have okc : Oo 140 (zt t.c) (zt ya) := ⟨(ZL (by decide) (by decide)).2 (hc.mono (by decide)), (ZL (by decide) (by decide)).2 (r3.mono (by decide))⟩
  have hcb : bq 77 (t.c * ya) := sN hc r3
  refine ⟨fun _ => okb, zY.2 ⟨fun c => (by cases c), fun _ => ⟨okc, ⟨0, ⟨⟨Nat.zero_le _, fun j hj => absurd hj (Nat.not_lt_zero _)⟩, rfl⟩, fun _ _ _ _ => trivial⟩, fun k ⟨q1, q2⟩ => ⟨fun kl => ?_, fun kg => ?_⟩⟩⟩⟩
  ·have hk : k < (ZV l z).length := by omega
   obtain ⟨x1, x2⟩ := k2 _ (yd hk)
   have sa := pA (t := ⟨t.c * ya, yb⟩) (d := zS.dflt) (cl := ZV l z) (i := k) hk q2
   have ra := Qz hn x1
   have rs := Qz x1 hn
   have sy := mX hn x1
   generalize hx0 : (ZV l z).getD k zS.dflt = x at *
   obtain ⟨xc, xq⟩ := x
   obtain ⟨f1, f2, f3, f4⟩ := wK x1 (by decide)
   have f1 : bq 8 xq := f1
   have okx : Yk 140 (zt xq) := (ZL (by decide) (by decide)).2 (f1.mono (by decide))
   have okb2 : Yk 140 (zt yb) := (ZL (by decide) (by decide)).2 (b1.mono (by decide))
   refine ⟨⟨by omega, by omega⟩, ra, zY.2 ⟨fun c => ?_, fun c => ⟨⟨⟨okb2, okx⟩, fun hlt2 => ?_, fun hge2 => ?_⟩, fun w hw => ?_⟩⟩⟩
   ·have c : yw yb xq = false := by simpa using c
    refine ⟨by simp only [ZA]; omega, k + 1, ⟨⟨⟨by omega, fun j hj => ?_⟩, by omega⟩, by omega⟩, fun _ _ _ _ => trivial⟩
    by_cases ej : j = k
    ·subst ej
     rw [hx0]; exact c
    ·exact q2 j (by omega)
   ·have hl := (uV _ _).1 hlt2
    refine ⟨_, rfl, ?_⟩
    unfold YM
    rw [if_pos (show (⟨t.c * ya, yb⟩ : Tm).q < (⟨xc, xq⟩ : Tm).q from hl)]
    exact ⟨⟨fun _ _ _ _ => trivial, rfl, rfl⟩, rfl, rfl⟩
   ·have hge2 : 0 ≤ W9 yb xq := hge2
    have hl : ¬ yb < xq := fun e => by have := (uV _ _).2 e; omega
    refine ⟨_, rfl, ?_⟩
    unfold YM
    rw [if_neg (show ¬ (⟨t.c * ya, yb⟩ : Tm).q < (⟨xc, xq⟩ : Tm).q from hl)]
    exact ⟨⟨fun _ _ _ _ => trivial, rfl, rfl⟩, rfl, rfl⟩
   ·have c : yw yb xq = true := by simpa using c
    have sa := sa c
    have lh := KX ⟨xc, xq⟩ ⟨t.c * ya, yb⟩
    rw [← hw] at lh
    have hpl : ig w.1 w.2 := by
     rw [hw]
     unfold YM
     split
     ·exact ⟨rs, sy c, hcb.mono (by decide), x2.mono (by decide)⟩
     ·exact ⟨ra, c, x2.mono (by decide), hcb.mono (by decide)⟩
    rw [← lh]
    refine ⟨hpl, ⟨by omega, by omega⟩, by simp only [ZA]; omega, z + 1, ⟨⟨by omega, by omega⟩, by omega⟩, ?_, ?_, fun i j hi hj => ?_⟩
    ·rw [e, sa, List.length_set]
    ·rw [e, sa, List.length_set]
    ·rw [e, sa]
     exact HD _ _ _ hk i j hj
  ·have sn := Tx (t := ⟨t.c * ya, yb⟩) (d := zS.dflt) (cl := ZV l z) fun j hj => q2 j (by omega)
   have fin : ((ZV l z).length + 1) * 32 ≤ 140737488355328 ∧ ZA IntKind.i64 ((z : Int) + 1) ∧ ∃ z', ((z' ≤ l.length ∧ l.length - z' < l.length - z) ∧ (z : Int) + 1 = (z' : Int)) ∧ (ZV l z').length = (ZV l z).length + 1 ∧ (ZV l z').length = (ZV l z).length + 1 ∧
     ∀ (i j : Nat), i < (ZV l z).length + 1 → j < 2 → zb (if i < (ZV l z).length then zS.enc ((ZV l z).getD i zS.dflt) j else zw [AV.str (zt (t.c * ya)), AV.str (zt yb)] j) (zS.enc ((ZV l z').getD i zS.dflt) j) := by
    refine ⟨by omega, by simp only [ZA]; omega, z + 1, ⟨⟨by omega, by omega⟩, by omega⟩, by rw [e, sn]; simp, by rw [e, sn]; simp, fun i j hi hj => ?_⟩
    rw [e, sn]
    exact pk _ ⟨t.c * ya, yb⟩ i j hi
   exact ⟨fin, fin⟩
 ·have hz' : z = l.length := by omega
  subst hz'
  obtain ⟨k1, k2⟩ := mr h l.length
  refine ⟨⟨0, ⟨Nat.zero_le _, rfl, rfl⟩, fun _ _ _ _ => trivial, rfl⟩, fun y hy => ⟨fun yl => ?_, fun yg => ?_⟩⟩
  ·have hyl : y < (ZV l l.length).length := by omega
   have os := oM hyl
   obtain ⟨x1, x2⟩ := k2 _ (yd hyl)
   have ho : (y7 l y).length ≤ y := by
    unfold y7
    exact Nat.le_trans (List.length_filter_le _ _) (by rw [List.length_take]; omega)
   rw [X3]
   generalize (ZV l l.length).getD y zS.dflt = x at *
   obtain ⟨f1, f2, f3, f4⟩ := wK x1 (by decide)
   refine ⟨⟨by omega, by omega⟩, zY.2 ⟨fun c => ?_, fun c => ?_⟩⟩
   ·have c : x.c = 0 := by simpa using c
    rw [if_pos c, List.append_nil] at os
    exact ⟨by simp only [ZA]; omega, y + 1, ⟨⟨by omega, by omega⟩, by rw [os], by omega⟩, fun _ _ _ _ => trivial, by rw [os], fun i j _ _ => by rw [os]; exact zT _⟩
   ·have c : x.c ≠ 0 := by simpa using c
    rw [if_neg c] at os
    have l60 : zF 60 (wd x.c) = false := Bool.eq_false_iff.2 fun e => by
     have := (zp _ _).1 e
     have := vP (by decide) x2
     omega
    have l40 : zF 40 (wd x.q) = false := Bool.eq_false_iff.2 fun e => by
     have := (zp _ _).1 e
     have := vP (by decide) f1
     omega
    rw [l60, l40]
    refine ⟨(ZL (by decide) (by decide)).2 (x2.mono (by decide)), fun _ => (ZL (by decide) (by decide)).2 (f1.mono (by decide)), zY.2 ⟨fun c => (by cases c), fun _ => ⟨by omega, by simp only [ZA]; omega, y + 1, ⟨⟨by omega, by omega⟩, by rw [os]; simp, by omega⟩, fun _ _ _ _ => trivial, by rw [os]; simp, fun i j hi _ => ?_⟩⟩⟩
    rw [os]
    exact pk _ x i j hi
  ·have hye : y = (ZV l l.length).length := by omega
   subst hye
   rw [NT]
   have hmk : (Zb l).length = (Yo l).length := (YF (Yo l)).length_eq
   have h16 := h.out
   refine ⟨fun h => by omega, fun _ => zY.2 ⟨fun _ => ⟨⟨by omega, fun i hi => ?_⟩, fun p ⟨p1, p2⟩ => ?_⟩, fun c => ?_⟩⟩
   ·have hm : (Yo l).getD i zS.dflt ∈ ZV l l.length := by rw [rx]; exact (List.mem_filter.1 (yd hi)).1
    obtain ⟨x1, _⟩ := k2 _ hm
    obtain ⟨f1, f2, f3, f4⟩ := wK x1 (by decide)
    unfold mB
    have e1 : zS.dec (α := Tm) (fun j => zS.enc ((Yo l).getD i zS.dflt) j) = (Yo l).getD i zS.dflt := yc.dec _
    have e2 : zS.ok (α := Tm) (fun j => zS.enc ((Yo l).getD i zS.dflt) j) = true := yc.ok _
    rw [e1, e2, Bool.true_and, Bool.and_eq_true]
    exact ⟨Nat.ble_eq_true_of_le f4, Nat.ble_eq_true_of_le (by rw [f3]; decide)⟩
   ·have hP := lP h p1 p2
    have hpl : p.length = (Yo l).length := by rw [p1.length_eq, List.length_range]
    refine ⟨rfl, fun h => h, rfl, hmk, fun i j hi hj => ?_⟩
    have : (p.map fun i => (Yo l).getD i zS.dflt).getD i zS.dflt = (Yo l).getD (p.getD i 0) zS.dflt := by
     simp [List.getD_eq_getElem?_getD, List.getElem?_map, List.getElem?_eq_getElem (show i < p.length by omega)]
    show zb (zS.enc ((Yo l).getD (p.getD i 0) zS.dflt) j) (zS.enc ((Zb l).getD i zS.dflt) j)
    rw [hP, this]
    exact zT _
   ·rw [Nat.beq_refl] at c; cases c
theorem Kg {G : List (Nat × Obj)} (hG : zN G) (l : List Tm) (h : wk l) : zU Tryz.prog G 20 [ZD l] (.tup 2 (zw [ZD (Zb l), .i 0])) :=
 zW (T := gv G l) (an := jY l) mixed (PL hG l) (Eq.mp (by kernel_rfl) (Ja G l h))
theorem pI {G : List (Nat × Obj)} (hG : zN G) : zO Tryz.prog G 20 tD := by
 intro xs ps r h hp
 unfold tD at h
 split at h
 ·skip
  rename_i x_l
  cases h
  obtain ⟨q0, q1, -⟩ := ZH hp
  exact weaken (ys := [ZD (Ze (α := Tm) x_l)]) ⟨zg q0, trivial⟩ (Kg hG (Ze (α := Tm) x_l) q1)
 ·cases h
end Go.Te
