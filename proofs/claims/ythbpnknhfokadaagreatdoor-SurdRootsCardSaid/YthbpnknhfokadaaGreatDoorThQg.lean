/- surd: Check. -/
import Derived.Test.YthbpnknhfokadaaGreatDoorThQc
import Derived.Shelf.Spec.SlicesGrow
import Derived.Test.YthbpnknhfokadaaGreatDoorSxJ
import Derived.Test.YthbpnknhfokadaaGreatDoorSxU
import Derived.Test.YthbpnknhfokadaaGreatDoorProg
import Derived.Test.YthbpnknhfokadaaGreatDoorThIf
import Derived.Test.YthbpnknhfokadaaGreatDoorThIk
import Derived.Test.YthbpnknhfokadaaGreatDoorArZ
set_option linter.unusedSimpArgs false
set_option linter.unusedVariables false
namespace Go.Te
open Go Go.Sx Go.Proofs Go.Ar
set_option maxRecDepth 100000
set_option maxHeartbeats 4000000
noncomputable def gE : Tb := (T0.plus 186 Su).body Tryz.prog [(153, .auto)]
theorem Ou : zz Tryz.prog gE := zz.body mixed (zz.plus zo Nw) _
theorem lQ (s : List UInt8) (h : zh s = false) :
 Zv [AV.str s, AV.str [(47 : UInt8)]] → leB iZ (Lib.indexByte s (47 : UInt8)) = false := by
 delta iZ
 intro hb
 refine Bool.eq_false_iff.2 fun e => ?_
 obtain ⟨z, _, hlt, _, hc⟩ := (SU 47 s).1 ((ZX _ _).1 e)
 have : zh s = true := List.any_eq_true.2 ⟨s.getD z 0, WV hlt, by rw [hc]; rfl⟩
 rw [h] at this
 cases this
def sU : List AV → Option (List zk × AV)
 | [.str s, .str p] => some ([.b (p == [47]), .p (zh s = false)], .b false)
 | _ => none
theorem MG : zO Tryz.prog [] 108 sU := by
 intro xs ps r h hp
 unfold sU at h
 split at h
 ·rename_i s p
  cases h
  have q : (p == [47]) = true := hp _ List.mem_cons_self
  have q1 : zh s = false := hp _ (List.mem_cons_of_mem _ List.mem_cons_self)
  obtain rfl := eq_of_beq q
  exact zW mixed Ou (Eq.mp (by kernel_rfl) (lQ s q1) : vK Tryz.prog gE 108 .auto [.str s, .str [47]] (.b false))
 ·cases h
structure j5 (t : Tm) : Prop where
 ne : t.c ≠ 0
 bc : bq 60 t.c
 nat : ZZ RM t
 nrm : nrm (mQ t.q) = (1, mQ t.q)
theorem Jx {t : Tm} (h : j5 t) : OC (zt t.q) ∧ nK t.q = 1 ∧ nL t.q = t.q ∧ zh (zt t.q) = false ∧ t.q ≠ 0 := by
 obtain ⟨b1, p1, d1, n1⟩ := wK h.nat (by decide)
 obtain ⟨e, h0, h1⟩ := h.nat.mQ
 refine ⟨⟨(ZL (by decide) (by decide)).2 (b1.mono (by decide)), by rw [zm]; exact p1, ?_⟩, ?_, ?_, ?_, Rat.ne_of_gt p1⟩
 ·rw [zm]
  have a1 : xa t.q.num ≤ 8 := Ya (by decide) b1.num
  have a2 : Lib.nDigits t.q.den ≤ 8 := (z7 (by decide)).2 b1.den
  omega
 ·unfold nK
  rw [h.nrm, d1]
  exact (show mkRat 1 1 = 1 by decide +kernel)
 ·unfold nL
  rw [h.nrm]
  exact e.symm
 ·rw [e, wG]
  exact (NQ _).2.2.1
noncomputable def gY (G : List (Nat × Obj)) : Tb := (((((WA G).plus 43 Sa).plus 44 (Yj fun s => .b (zJ s))).plus 83 uo).plus 47 uq).plus 108 sU
theorem oH {G : List (Nat × Obj)} (hG : zN G) : zz Tryz.prog (gY G) := zz.plus (zz.plus (zz.plus (zz.plus (zz.plus zo (Qj hG)) (zO.mono sD)) (PT hG)) (pF hG)) (zO.mono MG)
def UQ : List AV → Option (List zk × AV)
 | [x_t] => some ([.b (yp Tm x_t), .p (j5 (yR (α := Tm) x_t))], .i 0)
 | _ => none
theorem PO (G : List (Nat × Obj)) (t : Tm) (ht : j5 t) :
 let q1 := (ByteArray.data (ByteArray.mk #[(48 : UInt8)])); let q3 := (zF (60 : Int) (wd (zD (zt (Tm.c t))))); let q2 := (!zr false q3 || zr false q3); let q4 := (ByteArray.data (ByteArray.mk #[(49 : UInt8)])); let q5 := (kI ∧ iZ = iZ); let q6 := (!zr false (zJ (zt (Tm.q t))) || zr false (zJ (zt (Tm.q t)))); let q8 := (bif zJ (zt (Tm.q t)) then true else zt (Tm.q t) == Array.toList q1); let q7 := (!zr false q8 || zr false q8); let q9 := (kI ∧ (8 : Int) = iZ); let q11 := (bif iZ != iZ then true else
 !zt (nK (zD (zt (Tm.q t)))) == Array.toList q4); let q10 := (!zr false q11 || zr false q11); Zv [AV.agg 2 (zS.enc t)] → Yk 300 (zt (Tm.c t)) ∧ Yk 300 (zt (Tm.q t)) ∧ zZ (zt (Tm.c t) == Array.toList q1) (kI ∧ (12 : Int) = iZ) (Yk 300 (zt (Tm.c t)) ∧ bF q2 (bF q2 ((zr false q3 = true → Yk 300 (zt (Tm.q t))) ∧ bF q2 (bF (!!zF (60 : Int) (wd (zD (zt (Tm.c t)))) || zr false q3) (zZ (bif zF (60 : Int) (wd (zD (zt (Tm.c t)))) then true else zF (40 : Int) (wd (zD (zt (Tm.q t))))) (kI ∧ (4 :
 Int) = iZ) (zZ (zt (Tm.q t) == Array.toList q4) q5 (bF q6 (bF q6 (bF (!!zJ (zt (Tm.q t)) || zr false (zJ (zt (Tm.q t)))) (bF q7 (bF q7 (bF (!zr false q8 || bA #[(47 : UInt8)] == [(47 : UInt8)]) ((zr false q8 = true → zh (zt (Tm.q t)) = false) ∧ bF ((!!bif zJ (zt (Tm.q t)) then true else zt (Tm.q t) == Array.toList q1) || zr false q8) (zZ (bif bif zJ (zt (Tm.q t)) then true else zt (Tm.q t) == Array.toList q1 then true else false) q9 (OC (zt (Tm.q t)) ∧ bF q10 (zZ
 q10 (bF q10 (bF ((!!bif iZ != iZ then true else !zt (nK (zD (zt (Tm.q t)))) == Array.toList q4) || zr false q11) (zZ (bif bif iZ != iZ then true else !zt (nK (zD (zt (Tm.q t)))) == Array.toList q4 then true else !zt (nL (zD (zt (Tm.q t)))) == zt (Tm.q t)) q9 q5))) False)))))))))))))))) := by
 delta bF bA kI iZ
 dsimp only
 intro hb
 simp only [sS, Yw, yQ, zm, yY, ye, xb, YJ, dS]
 obtain ⟨q1, q2, q3, q4, q5⟩ := Jx ht
 obtain ⟨b1, p1, d1, n1⟩ := wK ht.nat (by decide)
 have o1 : Yk 300 (zt t.c) := (ZL (by decide) (by decide)).2 (ht.bc.mono (by decide))
 have o2 : Yk 300 (zt t.q) := (ZL (by decide) (by decide)).2 (b1.mono (by decide))
 have hm : zJ (zt t.q) = false := sX o2.1 (by rw [zm]; exact Rat.le_of_lt p1)
 have l60 : zF 60 (wd t.c) = false := Bool.eq_false_iff.2 fun e => by
  have := (zp _ _).1 e
  have := vP (by decide) ht.bc
  omega
 have l40 : zF 40 (wd t.q) = false := Bool.eq_false_iff.2 fun e => by
  have := (zp _ _).1 e
  have := vP (by decide) b1
  omega
 have z1 : (zt t.c == [48]) = false := by rw [X3]; exact decide_eq_false ht.ne
 have z2 : (zt t.q == [48]) = false := by rw [X3]; exact decide_eq_false q5
 have z3 : (zt (1 : Rat) == [49]) = true := by rw [tZ]; decide
 rw [z1, l60, l40, hm, z2, q2, q3, z3]
 refine ⟨o1, o2, zY.2 ⟨fun c => (by cases c), fun _ => ⟨o1, fun _ => o2, zY.2 ⟨fun c => (by cases c), fun _ => zY.2 ⟨fun _ => trivial, fun _ => zY.2 ⟨fun _ => ⟨fun _ => q4, zY.2 ⟨fun c => (by cases c), fun _ => ⟨q1, zY.2 ⟨fun c => ?_, fun _ => trivial⟩⟩⟩⟩, fun c => (by cases c)⟩⟩⟩⟩⟩⟩
 simp at c
theorem mw {G : List (Nat × Obj)} (hG : zN G) (t : Tm) (ht : j5 t) : zU Tryz.prog G 71 [xR t] (.i 0) :=
 zW (T := gY G) (an := .auto) mixed (oH hG) (Eq.mp (by kernel_rfl) (PO G t ht))
theorem mZ {G : List (Nat × Obj)} (hG : zN G) : zO Tryz.prog G 71 UQ := by
 intro xs ps r h hp
 unfold UQ at h
 split at h
 ·skip
  rename_i x_t
  cases h
  obtain ⟨q0, q1, -⟩ := ZH hp
  exact weaken (ys := [xR (yR (α := Tm) x_t)]) ⟨Zt q0, trivial⟩ (mw hG (yR (α := Tm) x_t) q1)
 ·cases h
theorem Xk (x : Tm) (z : Nat → AV) : yR (AV.agg 2 fun i => if i < 2 then zS.enc x i else z i) = x := by
 show (⟨zD (zt x.c), zD (zt x.q)⟩ : Tm) = x
 rw [zm, zm]
theorem xz (x : Tm) (z : Nat → AV) : yp Tm (AV.agg 2 fun i => if i < 2 then zS.enc x i else z i) = true := by
 show ((true && MK (zt x.c)) && (true && MK (zt x.q))) = true
 rw [uS, uS]; rfl
structure Xn (s : List Tm) : Prop where
 g : gS RM s
 len : s.length ≤ 16
 bc : ∀ x ∈ s, bq 60 x.c
def jA  : yq :=
 .two .auto (.two (.two .auto (.one (.loop Nat (fun σ z => [(0, σ.tm 0), (1, σ.tm 1), (7, σ.tm 7), (8, .i (z : Int))]) (fun σ z => []) 0 (fun σ z => 0 ≤ z) (fun σ z => 100 - z) .auto))) .auto)
def iL (s : List Tm) : yq :=
 .two .auto (.two .auto (.two (.two .auto (.one (.loop Nat (fun σ z => [(0, σ.tm 0), (11, σ.tm 11), (12, σ.tm 12), (13, .i (z : Int))]) (fun σ z => []) 0 (fun σ z => z ≤ s.length) (fun σ z => s.length - z) .auto))) .auto))
noncomputable def iA (G : List (Nat × Obj)) : Tb := ((((WA G).plus 71 UQ).plus 29 qY).plus 74 U9).body Tryz.prog [(73, .auto)]
theorem Qo {G : List (Nat × Obj)} (hG : zN G) : zz Tryz.prog (iA G) := zz.body mixed (zz.plus (zz.plus (zz.plus zo (mZ hG)) (Mn hG)) (R8 hG)) _
noncomputable def gF (G : List (Nat × Obj)) : Tb := ((iA G).body Tryz.prog [(109, jA)]).body Tryz.prog [(72, .auto)]
theorem Pm {G : List (Nat × Obj)} (hG : zN G) : zz Tryz.prog (gF G) := zz.body mixed (zz.body mixed (Qo hG) _) _
def Rx : List AV → Option (List zk × AV)
 | [x_s] => some ([.b (zC Tm x_s), .p (Xn (Ze (α := Tm) x_s))], .i 0)
 | _ => none
theorem im (G : List (Nat × Obj)) (s : List Tm) (hs : Xn s) :
 let q1 := (AV.xl false 2 (lN s) fun i j => zS.enc (gD s i zS.dflt) j); let q2 := (kI ∧ (lZ s) = (lZ s)); let q11 := (AV.fn (Fn.func 73) 0 (fun (i : Nat) => AV.junk) 1 fun i => Option.getD [AV.np (nat_lit 0) 0][i]? AV.junk); Zv [AV.xl false 2 (lN s) fun i j => zS.enc (gD s i zS.dflt) j] → zZ (zF (16 : Int) (lZ s)) (kI ∧ (4 : Int) = iZ) ((∃ (z : Nat), (z ≤ lN s ∧ zb q1 q1 ∧ zb q1 q1 ∧ q2 ∧ kI ∧ iZ = (cI z)) ∧ True) ∧ ∀ (z :
 Nat), let q4 := (gD s (Int.toNat (cI z)) zS.dflt); let q3 := (AV.agg 2 fun (i : Nat) => if 0 ≤ 0 + i ∧ 0 + i < 2 then zS.enc q4 (0 + (0 + i - 0)) else Z3 (Value.agg #[Value.string (ByteArray.mk #[]), Value.string (ByteArray.mk #[])]) (0 + i)); let q5 := (bF (dK ((cI z) + iO)) (∃ (z' : Nat), ((z' ≤ lN s ∧ lN s - z' < lN s - z) ∧ zb q1 q1 ∧ zb q1 q1 ∧ q2 ∧ kI ∧ (cI z) + iO = (cI z')) ∧ True)); let q6 := (zt (Tm.q (gD s (Int.toNat ((cI z) - iO)) zS.dflt))); let q8 :=
 (Tm.q q4); let q7 := (zt q8); let q9 := (zD q7); let q10 := (AV.xl false 2 (Int.toNat (cI z)) fun i j => zS.enc (gD s i zS.dflt) j); let q12 := (kI ∧ (cI (Int.toNat (↑z : Int))) = (cI (Int.toNat (↑z : Int)))); let q13 := (Tm.c q4); z ≤ lN s → zZ (zF (cI z) (lZ s)) (bF (DB.db (iZ ≤ (cI z) ∧ (cI z) < (lZ s))) (bF (yp Tm q3) (j5 (yR q3) ∧ zZ ((cI z) == iZ) q5 (bF (dK ((cI z) - iO)) (bF (DB.db (iZ ≤ (cI z) - iO ∧
 (cI z) - iO < (lZ s))) (Oo 140 q6 q7 ∧ zZ (bif iZ != iZ then true else leB iZ (W9 (zD q6) q9)) (kI ∧ (10 : Int) = iZ) (bF (DB.db (iZ ≤ (cI z) ∧ (cI z) ≤ (lZ s))) ((∃ (z_1 : Nat), (0 ≤ z_1 ∧ zb q10 q10 ∧ zb q11 q11 ∧ q12 ∧ kI ∧ iZ = (cI z_1)) ∧ 49 = 49 ∧ 2 = 2 ∧ zt q13 = zt q13 ∧ zt q8 = zt q8) ∧ ∀ (z_1 : Nat), let q14 := (zt (Tm.q (gD s (Int.toNat (cI z_1)) zS.dflt))); 0 ≤ z_1 → zZ (zF (cI z_1) (↑(Int.toNat (cI z))
 : Int)) (bF (DB.db (iZ ≤ (cI z_1) ∧ (cI z_1) < (cI (Int.toNat (↑z : Int))))) (Kl q7 q14 ∧ zZ (bif iZ == iZ then yw q9 (zD q14) else false) (kI ∧ (7 : Int) = iZ) (bF (dK ((cI z_1) + iO)) (∃ (z' : Nat), ((0 ≤ z' ∧ 100 - z' < 100 - z_1) ∧ zb q10 q10 ∧ zb q11 q11 ∧ q12 ∧ kI ∧ (cI z_1) + iO = (cI z')) ∧ 49 = 49 ∧ 2 = 2 ∧ zt q13 = zt q13 ∧ zt q8 = zt q8)))) q5)))))))) (kI ∧ iZ = iZ)) := by
 delta bF dK cI kI lZ lN gD iZ iO
 dsimp only
 intro hb
 simp only [↓yx, ↓ZI, row_one]
 simp only [sS, Yw, yQ, zm, yY, ye, xb, YJ, dS, Xk, xz]
 have hl := hs.len
 have gd : ∀ x ∈ s, j5 x := fun x hx => ⟨hs.g.ne x hx, hs.bc x hx, hs.g.nat x hx, hs.g.nrm x hx⟩
 have pw : ∀ (P : Tm → Tm → Prop), s.Pairwise P → ∀ i j, i < j → j < s.length → P (s.getD i zS.dflt) (s.getD j zS.dflt) := fun P hP i j hij hj => by
  have := (List.pairwise_iff_getElem.1 hP) i j (by omega) hj hij
  rw [List.getD_eq_getElem?_getD, List.getD_eq_getElem?_getD, List.getElem?_eq_getElem hj, List.getElem?_eq_getElem (show i < s.length by omega)]
  exact this
 refine ⟨fun h => by omega, fun _ => ⟨⟨0, Nat.zero_le _, rfl⟩, fun z hz => ⟨fun hlt => ?_, fun _ => trivial⟩⟩⟩
 have hzl : z < s.length := by omega
 have g1 := gd _ (yd hzl)
 refine ⟨⟨by omega, by omega⟩, g1, fun h0 => ⟨by simp only [ZA]; omega, z + 1, ⟨by omega, by omega⟩, by omega⟩, fun h0 => ?_⟩
 have e1 : ((z : Int) - 1).toNat = z - 1 := by omega
 rw [e1]
 have g2 := gd _ (yd (show z - 1 < s.length by omega))
 have hlt2 : (s.getD (z - 1) zS.dflt).q < (s.getD z zS.dflt).q := by
  have h1 := pw iY hs.g.le (z - 1) z (by omega) hzl
  have h2 := Of g2.nat (pw unr hs.g.unr (z - 1) z (by omega) hzl)
  exact Rat.lt_of_le_of_ne h1 h2
 have hc : leB 0 (W9 (s.getD (z - 1) zS.dflt).q (s.getD z zS.dflt).q) = false := Bool.eq_false_iff.2 fun e => by
  have := (ZX _ _).1 e
  have := (uV _ _).2 hlt2
  omega
 rw [hc]
 have oq : ∀ x : Tm, j5 x → Yk 140 (zt x.q) := fun x hx => (ZL (by decide) (by decide)).2 ((wK hx.nat (by decide)).1.mono (by decide))
 refine ⟨by simp only [ZA]; omega, ⟨by omega, by omega⟩, ⟨oq _ g2, oq _ g1⟩, zY.2 ⟨fun c => (by cases c), fun _ => ⟨⟨by omega, by omega⟩, ⟨0, rfl⟩, fun k _ => ⟨fun hk => ?_, fun hk => ⟨by simp only [ZA]; omega, z + 1, ⟨by omega, by omega⟩, by omega⟩⟩⟩⟩⟩
 have g3 := gd _ (yd (show k < s.length by omega))
 have hr : yw (s.getD z zS.dflt).q (s.getD k zS.dflt).q = false := (Wr g1.nat g3.nat (by decide)).2 (pw unr hs.g.unr k z (by omega) hzl).symm
 rw [hr]
 exact ⟨⟨by omega, by omega⟩, Qz g1.nat g3.nat, zY.2 ⟨fun c => (by cases c), fun _ => ⟨by simp only [ZA]; omega, k + 1, by omega, by omega⟩⟩⟩
theorem IV {G : List (Nat × Obj)} (hG : zN G) (s : List Tm) (hs : Xn s) : zU Tryz.prog G 35 [ZD s] (.i 0) :=
 zW (T := gF G) (an := iL s) mixed (Pm hG) (Eq.mp (by kernel_rfl) (im G s hs))
theorem nJ {G : List (Nat × Obj)} (hG : zN G) : zO Tryz.prog G 35 Rx := by
 intro xs ps r h hp
 unfold Rx at h
 split at h
 ·skip
  rename_i x_s
  cases h
  obtain ⟨q0, q1, -⟩ := ZH hp
  exact weaken (ys := [ZD (Ze (α := Tm) x_s)]) ⟨zg q0, trivial⟩ (IV hG (Ze (α := Tm) x_s) q1)
 ·cases h
end Go.Te

namespace Go.Proofs
open Go.Shelf
def Tryz.growCut_ren : Go.Shelf.Ren := ⟨fun | 4 => 75 | n => n, fun | 22 => 26 | 25 => 49 | 3 => 3 | 4 => 4 | 9 => 9 | 20 => 20 | 0 => 0 | n => n, fun | n => n⟩
theorem Tryz.growCut : Go.Proofs.Lays8.n4 Tryz.prog Tryz.growCut_ren := {
 mixed := by kernel_rfl
 f4 := ⟨Tryz.f75.name, by decide, Tryz.func75.trans (congrArg some (by kernel_rfl))⟩
 t0 := Tryz.underlying0
 a0 := Tryz.isAgg0
 z0 := Tryz.sizeOf0
 v0 := Tryz.zeroValue0
 t3 := Tryz.underlying3
 a3 := Tryz.isAgg3
 z3 := Tryz.sizeOf3
 v3 := Tryz.zeroValue3
 t4 := Tryz.underlying4
 a4 := Tryz.isAgg4
 z4 := Tryz.sizeOf4
 v4 := Tryz.zeroValue4
 t9 := Tryz.underlying9
 a9 := Tryz.isAgg9
 z9 := Tryz.sizeOf9
 v9 := Tryz.zeroValue9
 t20 := Tryz.underlying20
 a20 := Tryz.isAgg20
 z20 := Tryz.sizeOf20
 v20 := Tryz.zeroValue20
 t22 := Tryz.underlying26
 a22 := Tryz.isAgg26
 z22 := Tryz.sizeOf26
 v22 := Tryz.zeroValue26 }
end Go.Proofs
namespace Go.Te
open Go Go.Sx Go.Proofs Go.RowKit Go.Shelf
set_option maxHeartbeats 4000000
set_option maxRecDepth 100000
def pC (nb : Nat) (bl : Nat → OB) (xs : List AV) (K : Nat → (Nat → OB) → AV → Prop) : Prop :=
 match xs with
 | [.v (.slice none 0 0), .v (.int .i64 n)] => (0 ≤ n ∧ n ≤ 100000) ∧ K (nb + 1) (upd bl nb (.arr 49 2 0 fun _ _ => .junk)) (.ns nb 0 0)
 | _ => ZE xs
theorem Nc (bl : Nat → OB) (nb : Nat) : upd bl nb (.arr 49 2 (0 + 0) fun a b => if a < 0 then AV.junk else AV.junk) = upd bl nb (.arr 49 2 0 fun _ _ => .junk) := by
 congr 2
theorem OA (G : List (Nat × Obj)) : tO Tryz.prog G 75 pC := by
 refine ⟨enters_of Tryz.func75 (by kernel_rfl) rfl, ?_, ?_⟩
 ·intro nb bl xs k k' hk h
  unfold pC at h ⊢
  split at h
  ·exact ⟨h.1, hk _ _ _ h.2⟩
  ·exact h
 ·intro E nb bl S ρ w xs vs k _ hM hx h
  unfold pC at h
  split at h
  ·rename_i n
   obtain ⟨hn, hk⟩ := h
   match vs, hx with
   | [v, v2], ⟨hv, hv2, _⟩ =>
   obtain rfl := ZS hv
   obtain rfl := ZS hv2
   obtain ⟨m, rfl⟩ : ∃ m : Nat, n = m := ⟨n.toNat, by omega⟩
   have fin : ∀ (w' : World) (v' : Value), UR w w' 49 2 0 0 (.slice none 0 0) v' (fun _ _ => undef) (fun _ _ => undef) none →
     ∃ nb' bl' S' ρ' x rv, (Ending.returned v') = .returned rv ∧ k nb' bl' x ∧ Mem E nb' bl' S' ρ' w' ∧ (∀ b, S b → S' b ∧ w'.heap[b]? = w.heap[b]?) ∧ zf ρ ρ' ∧ zE w' S' ρ' x rv := fun w' v' hA => by
    obtain ⟨o, m1, m2, m3, m4⟩ := XB (els := fun _ _ => .junk) (src := fun _ _ => .junk) hM hA (fun g hg => by cases hg) (fun i j hi => absurd hi (Nat.not_lt_zero _)) (fun i j hi => absurd hi (Nat.not_lt_zero _))
    rw [Nc] at m1
    exact ⟨_, _, S, _, _, _, rfl, hk, m1, m3, m2, m4⟩
   by_cases h0 : m = 0
   ·subst h0
    refine (show Calls Tryz.prog 75 _ _ _ from Any8.slices_Grow_room Tryz.growCut none 0 0 0 w (Nat.le_refl _) (by omega) (by omega) (by omega)).mono ?_
    rintro e w' ⟨rfl, rfl⟩
    exact fin _ _ ⟨rfl, rfl, rfl, Nat.le_refl _, Nat.le_refl _, .inl ⟨none, rfl, rfl, rfl⟩⟩
   ·obtain ⟨i, hi, hz, hs, hby⟩ : ∃ i : TypeInfo, Tryz.prog.info? 49 = some i ∧ (∃ z, i.zero = some z ∧ z.cells.size = 2) ∧ i.size = 2 ∧ i.bytes = 32 := by
     refine ⟨_, rfl, ⟨_, rfl, ?_⟩, ?_, ?_⟩ <;> kernel_rfl
    obtain ⟨z, hz1, hz2⟩ := hz
    refine (show Calls Tryz.prog 75 _ _ _ from Any8.slices_Grow_grow Tryz.growCut i z hi hz1 (by omega) none 0 0 m [] w (Nat.le_refl _) (by omega) (by rw [hby]; omega) (by omega) (by simp) (fun _ => rfl) (fun a ha => by cases ha)).mono ?_
    rintro e w' ⟨rfl, rfl⟩
    refine fin _ _ ?_
    refine ⟨rfl, rfl, rfl, by simp, tE w 1, .inr ⟨w.heap.size, _, _, rfl, .inl rfl, Nat.zero_le _, ?_, heap_alloc_new w.drew _, ?_, fun b hb _ => heap_alloc_old w.drew _ hb, fun i j hi => absurd hi (Nat.not_lt_zero _), fun i j hi => absurd hi (Nat.not_lt_zero _)⟩⟩
    ·exact grownCap_le_maxLen w _ 0 49 (by unfold maxLen; omega)
    ·have hg := grownCap_ge w (0 + m) 0 49
     simp only [Array.size_append, List.size_toArray, List.length_nil, size_zeroCells, hz2, ← Nat.add_mul, Nat.zero_add]
     show (m - 0 + (grownCap w m 0 49 - m)) * 2 = grownCap w m 0 49 * 2
     rw [Nat.zero_add] at hg
     congr 1
     omega
  ·exact h.elim
end Go.Te

namespace Go.Te
open Go Go.Sx Go.Proofs Go.Ar
set_option maxRecDepth 100000
set_option maxHeartbeats 4000000
theorem Xf (l : List Tm) : Ze (AV.xl false 2 l.length fun i j => zS.enc (l.getD i zS.dflt) j) = l := um l
theorem xr (l : List Tm) : zC Tm (AV.xl false 2 l.length fun i j => zS.enc (l.getD i zS.dflt) j) = true := vn l
theorem vQ (s t : List Tm) : (AV.xl false 2 (s.length + t.length) fun i j => if i < s.length then (if i < 0 then AV.junk else zS.enc (s.getD i zS.dflt) j) else zS.enc (t.getD (i - s.length) zS.dflt) j) = AV.xl false 2 (s ++ t).length fun i j => zS.enc ((s ++ t).getD i zS.dflt) j := by
 rw [List.length_append]
 congr 1
 funext i j
 by_cases h : i < s.length
 ·rw [if_pos h, if_neg (Nat.not_lt_zero _), show (s ++ t).getD i zS.dflt = s.getD i zS.dflt by simp [List.getD_eq_getElem?_getD, List.getElem?_append_left h]]
 ·rw [if_neg h, show (s ++ t).getD i zS.dflt = t.getD (i - s.length) zS.dflt by simp [List.getD_eq_getElem?_getD, List.getElem?_append_right (Nat.le_of_not_lt h)]]
theorem PK : zD [45, 49] = -1 := by decide +kernel
def iR  : yq :=
 .two .auto (.two .auto (.two (.two .auto (.one (.unroll 3 .auto))) (.two .auto (.two (.two .auto (.one (.unroll 3 .auto))) .auto))))
def ip (s : List Tm) (c : Rat) : yq :=
 .two .auto (.two .auto (.two (.two .auto (.one (.loop Nat (fun σ z => [(1, σ.tm 1), (11, σ.tm 11), (12, σ.tm 12), (6, .ns σ.nb 0 (Zl c (s.take z)).length), (13, .i (z : Int))]) (fun σ z => [(σ.nb, Ms 49 (Zl c (s.take z)))]) 1 (fun σ z => z ≤ s.length) (fun σ z => s.length - z) .auto))) .auto))
def mU : List AV → Option (List zk × AV)
 | [x_s, .str c] => some ([.b (zC Tm x_s), .p ((Ze (α := Tm) x_s).length ≤ 1000), .p (Yk 10 c), .p (∀ x ∈ (Ze (α := Tm) x_s), bq 100 x.c)], .tup 2 (zw [ZD (Zl (zD c) (Ze (α := Tm) x_s)), .i 0]))
 | _ => none
theorem j6 (G : List (Nat × Obj)) (s : List Tm) (c : List UInt8) (hl : s.length ≤ 1000) (hc : Yk 10 c) (hs : ∀ x ∈ s, bq 100 x.c) :
 Zv [AV.xl false 2 (lN s) fun i j => zS.enc (gD s i zS.dflt) j, AV.str c] → (∃ (z : Nat), (z ≤ lN s ∧ c = c ∧ zb (AV.xl false 2 (lN s) fun i j => zS.enc (gD s i zS.dflt) j) (AV.xl false 2 (lN s) fun i j => zS.enc (gD s i zS.dflt) j) ∧ (kI ∧ (lZ s) = (lZ s)) ∧ (some (X9 Nat) = some (X9 Nat) ∧ 0 = 0 ∧ lN (Zl (zD c) (List.take z s)) = 0) ∧ kI ∧ iZ = (cI z)) ∧ lN (Zl (zD c) (List.take z s)) = 0) ∧ ∀ (z : Nat), z ≤ lN s →
 zZ (zF (cI z) (lZ s)) (bF (DB.db (iZ ≤ (cI z) ∧ (cI z) < (lZ s))) (Oo 140 (zt (Tm.c (gD s (Int.toNat (cI z)) zS.dflt))) c ∧ bF (DB.db ((lN (Zl (zD c) (List.take z s)) + 1) * 32 ≤ 140737488355328)) (bF (dK ((cI z) + iO)) (∃ (z' : Nat), ((z' ≤ lN s ∧ lN s - z' < lN s - z) ∧ c = c ∧ zb (AV.xl false 2 (lN s) fun i j => zS.enc (gD s i zS.dflt) j) (AV.xl false 2 (lN s) fun i j => zS.enc (gD s i zS.dflt) j) ∧
 (kI ∧ (lZ s) = (lZ s)) ∧ (nat_lit 0 = 0 ∧ 0 = 0 ∧ lN (Zl (zD c) (List.take z' s)) = lN (Zl (zD c) (List.take z s)) + 1) ∧ kI ∧ (cI z) + iO = (cI z')) ∧ (49 : TypeId) = 49 ∧ 2 = 2 ∧ lN (Zl (zD c) (List.take z' s)) = lN (Zl (zD c) (List.take z s)) + 1 ∧ ∀ (i j : Nat), i < lN (Zl (zD c) (List.take z s)) + 1 → j < 2 → zb (if i < lN (Zl (zD c) (List.take z s)) then zS.enc (gD (Zl (zD c) (List.take z s)) i zS.dflt) j else Sx.rowAt
 [zw [AV.str (zt (zD (zt (Tm.c (gD s (Int.toNat (cI z)) zS.dflt))) * zD c)), AV.str (zt (Tm.q (gD s (Int.toNat (cI z)) zS.dflt)))]] (i - lN (Zl (zD c) (List.take z s))) j) (zS.enc (gD (Zl (zD c) (List.take z' s)) i zS.dflt) j))))) (j2 ∧ (True ∧ zb (AV.xl false 2 (lN (Zl (zD c) (List.take z s))) fun i j => zS.enc (gD (Zl (zD c) (List.take z s)) (0 + i) zS.dflt) j) (AV.xl false 2 (lN (Zl (zD c) s)) fun i j => zS.enc (gD (Zl (zD c) s) i
 zS.dflt) j)) ∧ kI ∧ iZ = iZ) := by
 delta bF dK cI kI j2 lZ lN gD iZ iO
 intro hb
 simp only [↓yx, ↓ZI, row_one]
 simp only [sS, Yw, yQ, zm, yY, ye, xb, YJ, Xk, xz, Xf, xr, vQ, PK, dS]
 have key : ∀ z, z < s.length → Zl (zD c) (s.take (z + 1)) = Zl (zD c) (s.take z) ++ [⟨(s.getD z zS.dflt).c * zD c, (s.getD z zS.dflt).q⟩] := fun z hz => by
  rw [Uj hz]
  unfold Zl
  rw [List.map_append]; rfl
 have len : ∀ z, (Zl (zD c) (s.take z)).length ≤ s.length := fun z => by
  unfold Zl
  rw [List.length_map, List.length_take]; omega
 refine ⟨⟨0, ⟨Nat.zero_le _, rfl, rfl⟩, rfl⟩, fun z hz => ⟨fun hlt => ?_, fun hge => ?_⟩⟩
 ·have k := key z (by omega)
  have l1 := len z
  refine ⟨⟨by omega, by omega⟩, ⟨(ZL (by decide) (by decide)).2 ((hs _ (yd (by omega))).mono (by decide)), hc.mono (by decide)⟩, by omega, by simp only [ZA]; omega, z + 1, ⟨⟨by omega, by omega⟩, by rw [k]; simp, by omega⟩, by rw [k]; simp, fun i j hi hj => ?_⟩
  rw [k]
  exact pk _ ⟨(s.getD z zS.dflt).c * zD c, (s.getD z zS.dflt).q⟩ i j hi
 ·obtain rfl : z = s.length := by omega
  rw [List.take_length]
  exact ⟨rfl, zT _⟩
theorem IZ {G : List (Nat × Obj)} (hG : zN G) (s : List Tm) (c : List UInt8) (hl : s.length ≤ 1000) (hc : Yk 10 c) (hs : ∀ x ∈ s, bq 100 x.c) : zU Tryz.prog G 38 [ZD s, .str c] (.tup 2 (zw [ZD (Zl (zD c) s), .i 0])) :=
 zW (T := (WA G).plus 40 U5) (an := ip s (zD c)) mixed (zz.plus zo (Sg hG)) (Eq.mp (by kernel_rfl) (j6 G s c hl hc hs))
theorem Hv {G : List (Nat × Obj)} (hG : zN G) : zO Tryz.prog G 38 mU := by
 intro xs ps r h hp
 unfold mU at h
 split at h
 ·skip
  rename_i x_s c
  cases h
  obtain ⟨q0, q1, q2, q3, -⟩ := ZH hp
  exact weaken (ys := [ZD (Ze (α := Tm) x_s), .str c]) ⟨zg q0, zT _, trivial⟩ (IZ hG (Ze (α := Tm) x_s) c q1 q2 q3)
 ·cases h
noncomputable def J1 (G : List (Nat × Obj)) : Tb := ((Tb.own1 ((((WA G).plus 35 Rx).plus 20 tD).plus 38 mU) 75 pC).body Tryz.prog [(36, .auto), (37, iR)])
theorem Ur {G : List (Nat × Obj)} (hG : zN G) : zz Tryz.prog (J1 G) := zz.body mixed (zz.own1 (zz.plus (zz.plus (zz.plus zo (nJ hG)) (pI hG)) (Hv hG)) (OA G)) _
theorem M3 (G : List (Nat × Obj)) (s : List Tm) (t : List Tm) (hs : Xn s) (ht : Xn t) (hm : wk (s ++ t)) :
 let q1 := (AV.xl false 2 (lN s) fun i j => zS.enc (gD s i zS.dflt) j); let q2 := (AV.xl false 2 (lN t) fun i j => zS.enc (gD t i zS.dflt) j); let q3 := (AV.xl false 2 (0 + lN s + lN t) fun i j => if 0 + i < 0 + lN s then if 0 + i < 0 then AV.junk else zS.enc (gD s (0 + i - 0) zS.dflt) j else zS.enc (gD t (0 + i - (0 + lN s)) zS.dflt) j); let q4 := (Ze q3); let q5 := (Zb q4); Zv [AV.xl false 2 (lN s) fun i j => zS.enc (gD s i zS.dflt) j, AV.xl false 2 (lN t) fun i j => zS.enc
 (gD t i zS.dflt) j] → bF (zC Tm q1) (Xn (Ze q1) ∧ bF (!zr true (iZ == iZ) || zC Tm q2) ((zr true (iZ == iZ) = true → Xn (Ze q2)) ∧ bF (dK (iZ + (lZ s))) (bF (dK (iZ + (lZ s) + (lZ t))) ((iZ ≤ iZ + (lZ s) + (lZ t) ∧ iZ + (lZ s) + (lZ t) ≤ (100000 : Int)) ∧ bF (DB.db ((0 + lN s) * 32 ≤ 140737488355328)) (bF (DB.db ((0 + List.length
 s + lN t) * 32 ≤ 140737488355328)) (bF (zC Tm q3) (wk q4 ∧ j2 ∧ (True ∧ zb (AV.xl false 2 (lN q5) fun i j => zS.enc (gD q5 i zS.dflt) j) (AV.xl false 2 (lN (Zb (s ++ t))) fun i j => zS.enc (gD (Zb (s ++ t)) i zS.dflt) j)) ∧ kI ∧ iZ = iZ))))))) := by
 delta bF dK kI j2 lZ lN gD iZ
 dsimp only
 intro hb
 simp only [↓yx, ↓ZI, row_one]
 simp only [sS, Yw, yQ, zm, yY, ye, xb, YJ, Xk, xz, Xf, xr, vQ, PK, dS]
 have l1 := hs.len
 have l2 := ht.len
 exact ⟨hs, fun _ => ht, by simp only [ZA]; omega, by simp only [ZA]; omega, ⟨by omega, by omega⟩, by omega, by omega, hm, rfl⟩
theorem JC {G : List (Nat × Obj)} (hG : zN G) (s : List Tm) (t : List Tm) (hs : Xn s) (ht : Xn t) (hm : wk (s ++ t)) : zU Tryz.prog G 12 [ZD s, ZD t] (.tup 2 (zw [ZD (Zb (s ++ t)), .i 0])) :=
 zW (T := J1 G) (an := .auto) mixed (Ur hG) (Eq.mp (by kernel_rfl) (M3 G s t hs ht hm))
def qx : List AV → Option (List zk × AV)
 | [x_s, x_t] => some ([.b (zC Tm x_s), .b (zC Tm x_t), .p (Xn (Ze (α := Tm) x_s)), .p (Xn (Ze (α := Tm) x_t)), .p (wk ((Ze (α := Tm) x_s) ++ Zl (-1) (Ze (α := Tm) x_t)))], .tup 2 (zw [ZD (Zb ((Ze (α := Tm) x_s) ++ Zl (-1) (Ze (α := Tm) x_t))), .i 0]))
 | _ => none
theorem Kp (G : List (Nat × Obj)) (s : List Tm) (t : List Tm) (hs : Xn s) (ht : Xn t) (hm : wk (s ++ Zl (-1) t)) :
 let q1 := (AV.xl false 2 (lN s) fun i j => zS.enc (gD s i zS.dflt) j); let q2 := (AV.xl false 2 (lN t) fun i j => zS.enc (gD t i zS.dflt) j); let q3 := (Ze q2); let q4 := (bA #[(45 : UInt8), (49 : UInt8)]); let q6 := (Zl (zD q4) q3); let q5 := (lZ q6); let q7 := (0 + lN s + lN q6); let q8 := (AV.xl false 2 q7 fun i j => if 0 + i < 0 + lN s then if 0 + i < 0 then AV.junk else zS.enc (gD s (0 + i - 0) zS.dflt) j else zS.enc (gD q6 (0 + i - (0 +
 lN s)) zS.dflt) j); let q9 := (Ze q8); let q10 := (Zb q9); Zv [AV.xl false 2 (lN s) fun i j => zS.enc (gD s i zS.dflt) j, AV.xl false 2 (lN t) fun i j => zS.enc (gD t i zS.dflt) j] → bF (zC Tm q1) (Xn (Ze q1) ∧ bF (!zr true (iZ == iZ) || zC Tm q2) ((zr true (iZ == iZ) = true → Xn q3) ∧ bF (zC Tm q2) (lN q3 ≤ 1000 ∧ Yk 10 q4 ∧ (∀ (x : Tm), List.Mem x q3 → bq 100 (Tm.c x)) ∧ bF (dK (iZ + (lZ s))) (bF (dK (iZ +
 (lZ s) + q5)) ((iZ ≤ iZ + (lZ s) + q5 ∧ iZ + (lZ s) + q5 ≤ (100000 : Int)) ∧ bF (DB.db ((0 + lN s) * 32 ≤ 140737488355328)) (bF (DB.db (q7 * 32 ≤ 140737488355328)) (zZ (zC Tm q8) (wk q9 ∧ j2 ∧ (True ∧ zb (AV.xl false 2 (lN q10) fun i j => zS.enc (gD q10 i zS.dflt) j) (AV.xl false 2 (lN (Zb (s ++ Zl (-1 : Rat) t))) fun i j => zS.enc (gD (Zb (s ++ Zl (-1 : Rat) t)) i zS.dflt) j)) ∧ kI ∧ iZ = iZ)
 False))))))) := by
 delta bF dK bA kI j2 lZ lN gD iZ
 dsimp only
 intro hb
 simp only [↓yx, ↓ZI, row_one]
 simp only [sS, Yw, yQ, zm, yY, ye, xb, YJ, Xk, xz, Xf, xr, vQ, PK, dS]
 have l1 := hs.len
 have l2 := ht.len
 have l3 : (Zl (-1) t).length = t.length := by unfold Zl; rw [List.length_map]
 refine ⟨hs, fun _ => ht, by omega, ⟨by decide +kernel, ⟨by decide +kernel, by decide +kernel⟩⟩, fun x hx => (ht.bc x hx).mono (by decide), by simp only [ZA]; omega, by simp only [ZA]; omega, ⟨by omega, by omega⟩, by omega, by omega, hm, rfl⟩
theorem O3 {G : List (Nat × Obj)} (hG : zN G) (s : List Tm) (t : List Tm) (hs : Xn s) (ht : Xn t) (hm : wk (s ++ Zl (-1) t)) : zU Tryz.prog G 13 [ZD s, ZD t] (.tup 2 (zw [ZD (Zb (s ++ Zl (-1) t)), .i 0])) :=
 zW (T := J1 G) (an := .auto) mixed (Ur hG) (Eq.mp (by kernel_rfl) (Kp G s t hs ht hm))
theorem Jo {G : List (Nat × Obj)} (hG : zN G) : zO Tryz.prog G 13 qx := by
 intro xs ps r h hp
 unfold qx at h
 split at h
 ·skip
  rename_i x_s x_t
  cases h
  obtain ⟨q0, q1, q2, q3, q4, -⟩ := ZH hp
  exact weaken (ys := [ZD (Ze (α := Tm) x_s), ZD (Ze (α := Tm) x_t)]) ⟨zg q0, zg q1, trivial⟩ (O3 hG (Ze (α := Tm) x_s) (Ze (α := Tm) x_t) q2 q3 q4)
 ·cases h
def QC (s t : List Tm) (i k : Nat) : List Tm := yV (s.take i) t ++ (t.take k).map (xf (s.getD i zS.dflt))
def jM (s t : List Tm) : yq :=
 .two .auto (.two .auto (.two .auto (.two (.two .auto (.one (.loop Nat (fun σ z => [(1, σ.tm 1), (18, σ.tm 18), (19, σ.tm 19), (6, .ns σ.nb 0 (yV (s.take z) t).length), (20, .i (z : Int))]) (fun σ z => [(σ.nb, Ms 49 (yV (s.take z) t))]) 1 (fun σ z => z ≤ s.length) (fun σ z => s.length - z) (.two .auto (.two .auto (.two (.one (.two .auto (.two .auto (.one (.loop Nat (fun σ z => [(1, σ.tm 1), (8, σ.tm 8), (18, σ.tm 18), (19, σ.tm 19), (20, σ.tm 20), (24, σ.tm 24), (25, σ.tm 25), (6, .ns (Yl (σ.tm 6)) 0 (QC s t (AV.int (σ.tm 20)).toNat z).length), (26, .i (z : Int))]) (fun σ z => [(Yl (σ.tm 6), Ms 49 (QC s t (AV.int (σ.tm 20)).toNat z))]) 0 (fun σ z => z ≤ t.length) (fun σ z => t.length - z) .auto))))) .auto)))))) .auto)))
noncomputable def hZ (G : List (Nat × Obj)) : Tb := ((((WA G).plus 35 Rx).plus 20 tD).plus 40 U5).body Tryz.prog [(36, .auto)]
theorem qk {G : List (Nat × Obj)} (hG : zN G) : zz Tryz.prog (hZ G) := zz.body mixed (zz.plus (zz.plus (zz.plus zo (nJ hG)) (pI hG)) (Sg hG)) _
def pO : List AV → Option (List zk × AV)
 | [x_s, x_t] => some ([.b (zC Tm x_s), .b (zC Tm x_t), .p (Xn (Ze (α := Tm) x_s)), .p (Xn (Ze (α := Tm) x_t)), .p (wk (yV (Ze (α := Tm) x_s) (Ze (α := Tm) x_t)))], .tup 2 (zw [ZD (Zb (yV (Ze (α := Tm) x_s) (Ze (α := Tm) x_t))), .i 0]))
 | _ => none
theorem jW (G : List (Nat × Obj)) (s : List Tm) (t : List Tm) (hs : Xn s) (ht : Xn t) (hm : wk (yV s t)) :
 let q1 := (AV.xl false 2 (lN s) fun i j => zS.enc (gD s i zS.dflt) j); let q2 := (AV.xl false 2 (lN t) fun i j => zS.enc (gD t i zS.dflt) j); let q3 := (kI ∧ (lZ s) = (lZ s)); let q5 := (kI ∧ (lZ t) = (lZ t)); Zv [AV.xl false 2 (lN s) fun i j => zS.enc (gD s i zS.dflt) j, AV.xl false 2 (lN t) fun i j => zS.enc (gD t i zS.dflt) j] → bF (zC Tm q1) (Xn (Ze q1) ∧ zZ (!zr true (iZ == iZ) || zC
 Tm q2) ((zr true (iZ == iZ) = true → Xn (Ze q2)) ∧ (∃ (z : Nat), (z ≤ lN s ∧ zb q2 q2 ∧ zb q1 q1 ∧ q3 ∧ (some (X9 Nat) = some (X9 Nat) ∧ 0 = 0 ∧ lN (yV (List.take z s) t) = 0) ∧ kI ∧ iZ = (cI z)) ∧ lN (yV (List.take z s) t) = 0) ∧ ∀ (z : Nat), let q4 := (kI ∧ (cI z) = (cI z)); let q7 := (Int.toNat (AV.int (aI (cI z)))); let q9 := (gD s (Int.toNat (cI z)) zS.dflt); let q8 := (Tm.c q9); let q10 := (Tm.q q9); let q11 := (zt q8); let q14 := (zt q10); let q18
 := (AV.xl false 2 (lN (yV (List.take z s) t)) fun i j => zS.enc (gD (yV (List.take z s) t) (0 + i) zS.dflt) j); let q19 := (Ze q18); let q20 := (Zb q19); z ≤ lN s → zZ (zF (cI z) (lZ s)) (bF (DB.db (iZ ≤ (cI z) ∧ (cI z) < (lZ s))) ((∃ (z_1 : Nat), let q6 := (QC s t q7 z_1); (z_1 ≤ lN t ∧ zb q2 q2 ∧ (nat_lit 1 = 1 ∧ 0 = 0) ∧ zb q1 q1 ∧ q3 ∧ q4 ∧ zb q2 q2 ∧ q5 ∧ (nat_lit 0 = 0 ∧ 0 = 0 ∧ lN q6 = lN (yV (List.take z s) t)) ∧ kI ∧ iZ = (cI z_1))
 ∧ (49 = 49 ∧ 2 = 2 ∧ lN q6 = lN (yV (List.take z s) t) ∧ ∀ (i j : Nat), i < lN (yV (List.take z s) t) → j < 2 → zb (zS.enc (gD (yV (List.take z s) t) i zS.dflt) j) (zS.enc (gD q6 i zS.dflt) j)) ∧ 49 = 49 ∧ 2 = 2 ∧ zt q8 = zt q8 ∧ zt q10 = zt q10) ∧ ∀ (z_1 : Nat), let q13 := (gD t (Int.toNat (cI z_1)) zS.dflt); let q12 := (zt (Tm.c q13)); let q15 := (zt (Tm.q q13)); let q16 := (QC s t q7 z_1); z_1 ≤ lN t → zZ (zF (cI z_1) (lZ t)) (bF (DB.db (iZ ≤ (cI z_1) ∧ (cI z_1)
 < (lZ t))) (Oo 140 q11 q12 ∧ Oo 140 q14 q15 ∧ bF (DB.db ((lN q16 + 1) * 32 ≤ 140737488355328)) (bF (dK ((cI z_1) + iO)) (∃ (z' : Nat), let q17 := (QC s t q7 z'); ((z' ≤ lN t ∧ lN t - z' < lN t - z_1) ∧ zb q2 q2 ∧ (nat_lit 1 = 1 ∧ 0 = 0) ∧ zb q1 q1 ∧ q3 ∧ q4 ∧ zb q2 q2 ∧ q5 ∧ (nat_lit 0 = 0 ∧ 0 = 0 ∧ lN q17 = lN q16 + 1) ∧ kI ∧ (cI z_1) + iO = (cI z')) ∧ ((49 : TypeId) = 49 ∧ 2 = 2 ∧ lN q17 = lN q16 + 1 ∧ ∀ (i j : Nat), i < List.length
 q16 + 1 → j < 2 → zb (if i < lN q16 then zS.enc (gD q16 i zS.dflt) j else Sx.rowAt [zw [AV.str (zt (zD q11 * zD q12)), AV.str (zt (zD q14 * zD q15))]] (i - lN q16) j) (zS.enc (gD q17 i zS.dflt) j)) ∧ 49 = 49 ∧ 2 = 2 ∧ zt q8 = zt q8 ∧ zt q10 = zt q10)))) (bF (dK ((cI z) + iO)) (∃ (z' : Nat), ((z' ≤ lN s ∧ lN s - z' < lN s - z) ∧ zb q2 q2 ∧ zb q1 q1 ∧ q3 ∧ (nat_lit 0 = 0 ∧ 0 = 0 ∧ lN (yV (List.take z' s) t) = lN q16) ∧ kI ∧ (↑z :
 Int) + iO = (cI z')) ∧ 49 = 49 ∧ 2 = 2 ∧ lN (yV (List.take z' s) t) = lN q16 ∧ ∀ (i j : Nat), i < lN q16 → j < 2 → zb (zS.enc (gD q16 i zS.dflt) j) (zS.enc (gD (yV (List.take z' s) t) i zS.dflt) j))))) (bF (zC Tm q18) (wk q19 ∧ j2 ∧ (True ∧ zb (AV.xl false 2 (lN q20) fun i j => zS.enc (gD q20 i zS.dflt) j) (AV.xl false 2 (lN (Zb (yV s t))) fun i j => zS.enc (gD (Zb (yV s t)) i zS.dflt) j)) ∧ kI ∧ iZ = iZ)))
 False) := by
 delta bF dK cI kI j2 lZ lN gD iZ iO aI
 dsimp only
 intro hb
 simp only [↓yx, ↓ZI, row_one]
 simp only [sS, Yw, yQ, zm, yY, ye, xb, YJ, Xk, xz, Xf, xr, vQ, PK, dS]
 have l1 := hs.len
 have l2 := ht.len
 have lm : ∀ z, (yV (s.take z) t).length ≤ 16 * 16 := fun z => by
  rw [S6, List.length_take]
  exact Nat.mul_le_mul (by omega) l2
 have lp : ∀ z k, (QC s t z k).length ≤ 16 * 16 + 16 := fun z k => by
  unfold QC
  rw [List.length_append, List.length_map, List.length_take]
  have := lm z
  omega
 have p0 : ∀ z, QC s t z 0 = yV (s.take z) t := fun z => by unfold QC; simp
 have p1 : ∀ z k, k < t.length → QC s t z (k + 1) = QC s t z k ++ [xf (s.getD z zS.dflt) (t.getD k zS.dflt)] := fun z k hk => by
  unfold QC
  rw [Uj hk, List.map_append, ← List.append_assoc]; rfl
 have p2 : ∀ z, z < s.length → yV (s.take (z + 1)) t = QC s t z t.length := fun z hz => by
  unfold QC
  rw [Uj hz, List.take_length]
  unfold yV
  rw [List.flatMap_append]
  simp
 have okq : ∀ q : Rat, bq 60 q → Yk 140 (zt q) := fun q hq => (ZL (by decide) (by decide)).2 (hq.mono (by decide))
 have oq : ∀ x : Tm, ZZ RM x → bq 60 x.q := fun x hx => (wK hx (by decide)).1.mono (by decide)
 refine ⟨hs, fun _ => ht, ⟨0, ⟨Nat.zero_le _, rfl, rfl⟩, rfl⟩, fun z hz => ⟨fun hlt => ⟨⟨by omega, by omega⟩, ⟨0, ⟨Nat.zero_le _, by rw [p0], rfl⟩, by rw [p0], fun i j _ _ => by rw [p0]; exact zT _⟩, fun k hk => ⟨fun kl => ?_, fun kg => ?_⟩⟩, fun hge => ?_⟩⟩
 ·have e := p1 z k (by omega)
  have hx := yd (l := s) (i := z) (by omega)
  have hy := yd (l := t) (i := k) (by omega)
  have := lp z k
  refine ⟨⟨by omega, by omega⟩, ⟨okq _ (hs.bc _ hx), okq _ (ht.bc _ hy)⟩, ⟨okq _ (oq _ (hs.g.nat _ hx)), okq _ (oq _ (ht.g.nat _ hy))⟩, by omega, by simp only [ZA]; omega, k + 1, ⟨⟨by omega, by omega⟩, by rw [e]; simp, by omega⟩, by rw [e]; simp, fun i j hi hj => ?_⟩
  rw [e]
  exact pk _ (xf (s.getD z zS.dflt) (t.getD k zS.dflt)) i j hi
 ·obtain rfl : k = t.length := by omega
  have e := p2 z (by omega)
  exact ⟨by simp only [ZA]; omega, z + 1, ⟨⟨by omega, by omega⟩, by rw [e], by omega⟩, by rw [e], fun i j _ _ => by rw [e]; exact zT _⟩
 ·obtain rfl : z = s.length := by omega
  rw [List.take_length]
  exact ⟨hm, rfl, zT _⟩
theorem Ko {G : List (Nat × Obj)} (hG : zN G) (s : List Tm) (t : List Tm) (hs : Xn s) (ht : Xn t) (hm : wk (yV s t)) : zU Tryz.prog G 16 [ZD s, ZD t] (.tup 2 (zw [ZD (Zb (yV s t)), .i 0])) :=
 zW (T := hZ G) (an := jM s t) mixed (qk hG) (Eq.mp (by kernel_rfl) (jW G s t hs ht hm))
theorem Km {G : List (Nat × Obj)} (hG : zN G) : zO Tryz.prog G 16 pO := by
 intro xs ps r h hp
 unfold pO at h
 split at h
 ·skip
  rename_i x_s x_t
  cases h
  obtain ⟨q0, q1, q2, q3, q4, -⟩ := ZH hp
  exact weaken (ys := [ZD (Ze (α := Tm) x_s), ZD (Ze (α := Tm) x_t)]) ⟨zg q0, zg q1, trivial⟩ (Ko hG (Ze (α := Tm) x_s) (Ze (α := Tm) x_t) q2 q3 q4)
 ·cases h
def Q3 : List AV → Option (List zk × AV)
 | [x_s] => some ([.b (zC Tm x_s), .p (Xn (Ze (α := Tm) x_s))], .tup 3 (zw [.str (if (Ze (α := Tm) x_s).length = 0 then [48] else if (Ze (α := Tm) x_s).length = 1 ∧ ((Ze (α := Tm) x_s).getD 0 zS.dflt).q = 1 then zt ((Ze (α := Tm) x_s).getD 0 zS.dflt).c else []), .b (decide ((Ze (α := Tm) x_s).length = 0 ∨ (Ze (α := Tm) x_s).length = 1 ∧ ((Ze (α := Tm) x_s).getD 0 zS.dflt).q = 1)), .i 0]))
 | _ => none
theorem jt (G : List (Nat × Obj)) (s : List Tm) (hs : Xn s) :
 let q1 := (AV.xl false 2 (lN s) fun i j => zS.enc (gD s i zS.dflt) j); let q2 := (lN s = 0 ∨ lN s = 1 ∧ Tm.q (gD s 0 zS.dflt) = (1 : Rat)); let q3 := (!zr true ((lZ s) == iO) || zr true ((lZ s) == iO)); let q4 := (iZ ≤ iZ ∧ iZ < (lZ s)); Zv [AV.xl false 2 (lN s) fun i j => zS.enc (gD s i zS.dflt) j] → bF (zC Tm q1) (Xn (Ze q1) ∧ zZ ((lZ s) == iZ) (3 = lN [AV.junk, AV.junk, AV.junk] ∧ ((True ∧
 bA #[(48 : UInt8)] = if lN s = 0 then [(48 : UInt8)] else if lN s = 1 ∧ Tm.q (gD s 0 zS.dflt) = (1 : Rat) then zt (Tm.c (gD s 0 zS.dflt)) else []) ∧ true = decide q2) ∧ kI ∧ iZ = iZ) (bF q3 (bF (!zr true ((lZ s) == iO) || DB.db q4) (bF q3 (bF q3 (bF q3 (bF (!(lZ s) == iO || zr true ((lZ s) == iO)) (zZ (bif (lZ s) == iO then zt (Tm.q (gD s 0
 zS.dflt)) == bA #[(49 : UInt8)] else false) (bF (DB.db q4) (3 = lN [AV.junk, AV.junk, AV.junk] ∧ ((True ∧ zt (Tm.c (gD s 0 zS.dflt)) = if lN s = 0 then [(48 : UInt8)] else if lN s = 1 ∧ Tm.q (gD s 0 zS.dflt) = (1 : Rat) then zt (Tm.c (gD s 0 zS.dflt)) else []) ∧ true = decide q2) ∧ kI ∧ iZ = iZ)) (3 = lN [AV.junk, AV.junk, AV.junk] ∧ ((True ∧ bA #[] = if lN s = 0 then [(48 : UInt8)] else if
 lN s = 1 ∧ Tm.q (gD s 0 zS.dflt) = (1 : Rat) then zt (Tm.c (gD s 0 zS.dflt)) else []) ∧ false = decide q2) ∧ kI ∧ iZ = iZ))))))))) := by
 delta bF bA kI lZ lN gD iZ iO
 dsimp only
 intro hb
 simp only [↓yx, ↓ZI, row_one]
 simp only [sS, Yw, yQ, zm, yY, ye, xb, YJ, Xk, xz, Xf, xr, vQ, PK, dS]
 rw [tZ]
 refine ⟨hs, fun h => ⟨rfl, by rw [if_pos (by omega)], (decide_eq_true (.inl (by omega))).symm⟩, fun h => ⟨fun _ => ⟨by omega, by omega⟩, zY.2 ⟨fun c => ?_, fun c => ?_⟩⟩⟩
 ·simp only [Bool.and_eq_true, beq_iff_eq, decide_eq_true_eq] at c
  have c1 : s.length = 1 := by omega
  exact ⟨⟨by omega, by omega⟩, rfl, by rw [if_neg (by omega), if_pos ⟨c1, c.2⟩], (decide_eq_true (.inr ⟨c1, c.2⟩)).symm⟩
 ·have c2 : ¬(s.length = 1 ∧ (s.getD 0 zS.dflt).q = 1) := fun e => by
   rw [show ((s.length : Int) == 1) = true from beq_iff_eq.2 (by omega), Bool.true_and, decide_eq_false_iff_not] at c
   exact c e.2
  exact ⟨rfl, by rw [if_neg (by omega), if_neg c2], (decide_eq_false fun e => by rcases e with e | e; omega; exact c2 e).symm⟩
theorem IE {G : List (Nat × Obj)} (hG : zN G) (s : List Tm) (hs : Xn s) : zU Tryz.prog G 22 [ZD s] (.tup 3 (zw [.str (if s.length = 0 then [48] else if s.length = 1 ∧ (s.getD 0 zS.dflt).q = 1 then zt (s.getD 0 zS.dflt).c else []), .b (decide (s.length = 0 ∨ s.length = 1 ∧ (s.getD 0 zS.dflt).q = 1)), .i 0])) :=
 zW (T := (WA G).plus 35 Rx) (an := .auto) mixed (zz.plus zo (nJ hG)) (Eq.mp (by kernel_rfl) (jt G s hs))
theorem KC {G : List (Nat × Obj)} (hG : zN G) : zO Tryz.prog G 22 Q3 := by
 intro xs ps r h hp
 unfold Q3 at h
 split at h
 ·skip
  rename_i x_s
  cases h
  obtain ⟨q0, q1, -⟩ := ZH hp
  exact weaken (ys := [ZD (Ze (α := Tm) x_s)]) ⟨zg q0, trivial⟩ (IE hG (Ze (α := Tm) x_s) q1)
 ·cases h
structure iI (s t : List Tm) : Prop where
 fs : Xn s
 ft : Xn t
 made : wk (s ++ Zl (-1) t)
 no : Zb (s ++ Zl (-1) t) = []
def Qg : List AV → Option (List zk × AV)
 | [x, y] => some ([.b (zC Tm x), .b (zC Tm y), .p (iI (Ze x) (Ze y))], .tup 2 (zw [ZD ([] : List Tm), .i 0]))
 | _ => none
theorem ja {G : List (Nat × Obj)} (hG : zN G) : zO Tryz.prog G 13 Qg := by
 intro xs ps r h hp
 unfold Qg at h
 split at h
 ·rename_i x y
  cases h
  obtain ⟨q0, q1, -⟩ := ZH hp
  have q2 : iI (Ze x) (Ze y) := hp _ (List.mem_cons_of_mem _ (List.mem_cons_of_mem _ List.mem_cons_self))
  have := O3 hG (Ze x) (Ze y) q2.1 q2.2 q2.3
  rw [q2.4] at this
  exact weaken (ys := [_, _]) ⟨zg q0, zg q1, trivial⟩ this
 ·cases h
theorem Mf (G : List (Nat × Obj)) (s : List Tm) (t : List Tm) (h : iI s t) :
 let q1 := (AV.xl false 2 (lN s) fun i j => zS.enc (gD s i zS.dflt) j); let q2 := (AV.xl false 2 (lN t) fun i j => zS.enc (gD t i zS.dflt) j); Zv [AV.xl false 2 (lN s) fun i j => zS.enc (gD s i zS.dflt) j, AV.xl false 2 (lN t) fun i j => zS.enc (gD t i zS.dflt) j] → bF (zC Tm q1) (bF (zC Tm q2) (iI (Ze q1) (Ze q2) ∧ j2 ∧ (True ∧ kI ∧ iZ = iZ) ∧ kI ∧ iZ = iZ)) := by
 delta bF kI j2 lN gD iZ
 dsimp only
 intro hb
 simp only [↓yx, ↓ZI, row_one]
 simp only [sS, Yw, yQ, zm, yY, ye, xb, YJ, Xk, xz, Xf, xr, vQ, PK, dS]
 exact ⟨h, rfl⟩
theorem jx {G : List (Nat × Obj)} (hG : zN G) (s : List Tm) (t : List Tm) (h : iI s t) : zU Tryz.prog G 23 [ZD s, ZD t] (.tup 2 (zw [.i 0, .i 0])) :=
 zW (T := ((WA G).plus 13 Qg).body Tryz.prog [(41, .auto)]) (an := .auto) mixed (zz.body mixed (zz.plus zo (ja hG)) _) (Eq.mp (by kernel_rfl) (Mf G s t h))
end Go.Te

namespace Go.Te
open Go Go.Sx Go.Proofs Go.Ar Go.Lib
set_option maxRecDepth 100000
set_option maxHeartbeats 4000000
theorem M1  :
 True := by
 trivial
theorem LE  :
 True := by
 trivial
theorem kF  :
 True := by
 trivial
theorem kL  :
 True := by
 trivial
theorem Lb  :
 True := by
 trivial
theorem kh  :
 True := by
 trivial
theorem kj  :
 True := by
 trivial
theorem Lp  :
 True := by
 trivial
theorem kM  :
 True := by
 trivial
theorem lf  :
 True := by
 trivial
theorem LM  :
 True := by
 trivial
theorem Lk  :
 True := by
 trivial
theorem LF  :
 True := by
 trivial
theorem MI  :
 True := by
 trivial
theorem Lc  :
 True := by
 trivial
theorem Mb  :
 True := by
 trivial
theorem kw  :
 True := by
 trivial
theorem M2  :
 True := by
 trivial
theorem kq  :
 True := by
 trivial
theorem lA  :
 True := by
 trivial
theorem kV  :
 True := by
 trivial
theorem M0  :
 True := by
 trivial
theorem Kz  :
 True := by
 trivial
theorem Kw  :
 True := by
 trivial
theorem lc  :
 True := by
 trivial
theorem lE  :
 True := by
 trivial
def SN : List AV → Option (List zk × AV)
 | [.str s, .v (.int .i64 k)] => some ([.b (s == [48]), .p (0 ≤ k ∧ k ≤ 40)], .str (List.replicate k.toNat 48))
 | _ => none
theorem Ob : zO Tryz.prog [] 116 SN := by
 intro xs ps r h hp
 unfold SN at h
 split at h
 ·rename_i s k
  cases h
  have q : (s == [48]) = true := hp _ List.mem_cons_self
  have q1 : 0 ≤ k ∧ k ≤ 40 := hp _ (List.mem_cons_of_mem _ List.mem_cons_self)
  obtain rfl := eq_of_beq q
  obtain ⟨n, rfl⟩ : ∃ n : Nat, k = n := ⟨k.toNat, by omega⟩
  by_cases hs : n ≤ 14
  ·exact Kc _ _ _ rfl fun c hc => by
    rcases List.mem_cons.1 hc with rfl | hc
    ·exact q
    ·rw [List.mem_singleton.1 hc]
     show (0 : Int) ≤ n ∧ (n : Int) ≤ 14
     omega
  ·obtain ⟨m, rfl⟩ : ∃ m, n = m + 15 := ⟨n - 15, by omega⟩
   match m, q1 with
   | 0, _ => exact yA rfl (Eq.mp (by kernel_rfl) M1)
   | 1, _ => exact yA rfl (Eq.mp (by kernel_rfl) LE)
   | 2, _ => exact yA rfl (Eq.mp (by kernel_rfl) kF)
   | 3, _ => exact yA rfl (Eq.mp (by kernel_rfl) kL)
   | 4, _ => exact yA rfl (Eq.mp (by kernel_rfl) Lb)
   | 5, _ => exact yA rfl (Eq.mp (by kernel_rfl) kh)
   | 6, _ => exact yA rfl (Eq.mp (by kernel_rfl) kj)
   | 7, _ => exact yA rfl (Eq.mp (by kernel_rfl) Lp)
   | 8, _ => exact yA rfl (Eq.mp (by kernel_rfl) kM)
   | 9, _ => exact yA rfl (Eq.mp (by kernel_rfl) lf)
   | 10, _ => exact yA rfl (Eq.mp (by kernel_rfl) LM)
   | 11, _ => exact yA rfl (Eq.mp (by kernel_rfl) Lk)
   | 12, _ => exact yA rfl (Eq.mp (by kernel_rfl) LF)
   | 13, _ => exact yA rfl (Eq.mp (by kernel_rfl) MI)
   | 14, _ => exact yA rfl (Eq.mp (by kernel_rfl) Lc)
   | 15, _ => exact yA rfl (Eq.mp (by kernel_rfl) Mb)
   | 16, _ => exact yA rfl (Eq.mp (by kernel_rfl) kw)
   | 17, _ => exact yA rfl (Eq.mp (by kernel_rfl) M2)
   | 18, _ => exact yA rfl (Eq.mp (by kernel_rfl) kq)
   | 19, _ => exact yA rfl (Eq.mp (by kernel_rfl) lA)
   | 20, _ => exact yA rfl (Eq.mp (by kernel_rfl) kV)
   | 21, _ => exact yA rfl (Eq.mp (by kernel_rfl) M0)
   | 22, _ => exact yA rfl (Eq.mp (by kernel_rfl) Kz)
   | 23, _ => exact yA rfl (Eq.mp (by kernel_rfl) Kw)
   | 24, _ => exact yA rfl (Eq.mp (by kernel_rfl) lc)
   | 25, _ => exact yA rfl (Eq.mp (by kernel_rfl) lE)
   | m + 26, q1 => exact absurd q1.2 (by omega)
 ·cases h
end Go.Te

namespace Go.Te
open Go Go.Sx Go.Proofs Go.Ar Go.Lib
set_option maxRecDepth 100000
set_option maxHeartbeats 4000000
def Jh (n : Nat) : yq :=
 .two .auto (.two .auto (.two .auto (.two .auto (.two (.one (.loop Nat (fun σ z => [(4, σ.tm 4), (6, .i (z : Int))]) (fun σ z => []) 0 (fun σ z => 0 < z ∧ z ≤ 2000000000) (fun σ z => 4000000000 - z) .auto)) (.one (.loop Nat (fun σ z => [(4, σ.tm 4), (6, .i (z : Int))]) (fun σ z => []) 0 (fun σ z => 0 < z ∧ z ≤ 2000000000 ∧ n < (z + 1) * (z + 1)) (fun σ z => z) .auto))))))
def qC : List AV → Option (List zk × AV)
 | [.str a] => some ([.p (Zx a = true), .p (0 < zX a), .p (a.length ≤ 18)], .tup 2 (zw [.str (Lib.itoa (ZC (zX a).toNat)), .i 0]))
 | _ => none
theorem LK (G : List (Nat × Obj)) (a : List UInt8) (hi : Zx a = true) (h0 : 0 < zX a) (hl : a.length ≤ 18) :
 Zv [AV.str a] → bF (Zx a) (lN a ≤ 18 ∧ (∃ (z : Nat), ((0 < z ∧ z ≤ 2000000000) ∧ (kI ∧ zX a = zX a) ∧ kI ∧ iO = (cI z)) ∧ True) ∧ ∀ (z : Nat), 0 < z ∧ z ≤ 2000000000 → bF (DB.db ((cI z) ≠ iZ)) (bF (dK (Int.tdiv (zX a) (cI z))) (zZ (zF (cI z) (Int.tdiv (zX a) (cI z))) (bF (dK ((cI z) * (2 : Int))) (∃ (z' : Nat), (((0 < z' ∧ z' ≤ 2000000000) ∧ 4000000000 - z' < 4000000000 - z) ∧ (kI ∧ zX a = zX a) ∧ kI ∧ (cI z) * (2 :
 Int) = (cI z')) ∧ True)) ((∃ (z_1 : Nat), ((0 < z_1 ∧ z_1 ≤ 2000000000 ∧ Int.toNat (zX a) < (z_1 + 1) * (z_1 + 1)) ∧ (kI ∧ zX a = zX a) ∧ kI ∧ (cI z) = (cI z_1)) ∧ True) ∧ ∀ (z : Nat), 0 < z ∧ z ≤ 2000000000 ∧ Int.toNat (zX a) < (z + 1) * (z + 1) → bF (DB.db ((cI z) ≠ iZ)) (bF (dK (Int.tdiv (zX a) (cI z))) (bF (dK ((cI z) + Int.tdiv (zX a) (cI z))) (bF (dK (Int.tdiv ((cI z) + Int.tdiv (zX a) (cI z)) (2 : Int))) (zZ (leB (cI z) (Int.tdiv
 ((cI z) + Int.tdiv (zX a) (cI z)) (2 : Int))) ((iN ≤ (cI z) ∧ (cI z) ≤ iX) ∧ j2 ∧ (True ∧ itoa (cI z) = itoa (cI (ZC (Int.toNat (zX a))))) ∧ kI ∧ iZ = iZ) (∃ (z' : Nat), (((0 < z' ∧ z' ≤ 2000000000 ∧ Int.toNat (zX a) < (z' + 1) * (z' + 1)) ∧ z' < z) ∧ (kI ∧ zX a = zX a) ∧ kI ∧ Int.tdiv ((cI z) + Int.tdiv (zX a) (cI z)) (2 : Int) = (cI z')) ∧ True))))))))) := by
 delta bF dK cI kI j2 lN iZ iO iX iN
 intro hb
 simp only [↓yx, ↓ZI, row_one]
 simp only [sS, dS]
 obtain ⟨n, hn⟩ : ∃ n : Nat, zX a = n := ⟨(zX a).toNat, by omega⟩
 have hb2 : (zX a).natAbs < 10 ^ 18 := Nat.lt_of_lt_of_le (Pk hi) (Nat.pow_le_pow_right (by omega) hl)
 rw [show 10 ^ 18 = 1000000000000000000 from by decide] at hb2
 rw [hn] at hb2 h0 ⊢
 rw [Int.natAbs_natCast] at hb2
 rw [Int.toNat_natCast, hi]
 have hn0 : 0 < n := by omega
 have ed : ∀ z : Nat, (n : Int).tdiv (z : Int) = ((n / z : Nat) : Int) := fun z => by rw [Int.tdiv_eq_ediv_of_nonneg (by omega), Int.natCast_ediv]
 refine zY.2 ⟨fun _ => ⟨hl, ⟨1, by omega, rfl⟩, fun z ⟨z1, z2⟩ => ?_⟩, fun c => (by cases c)⟩
 have q1 : n / z ≤ n := Nat.div_le_self _ _
 have q2 := Nat.div_mul_le_self n z
 have q3 := Nat.lt_div_mul_add (a := n) z1
 rw [ed]
 generalize n / z = q at *
 refine ⟨by omega, by simp only [ZA]; omega, fun hlt => ?_, fun hge => ⟨⟨z, ⟨z1, z2, ?_⟩, rfl⟩, fun y ⟨y1, y2, y3⟩ => ?_⟩⟩
 ·have hz9 : z * z < 1000000000 * 1000000000 := by
   have : z * z ≤ q * z := Nat.mul_le_mul_right _ (by omega)
   omega
  have := Xc hz9
  exact ⟨by simp only [ZA]; omega, z * 2, ⟨⟨by omega, by omega⟩, by omega⟩, by omega⟩
 ·have : q * z ≤ z * z := Nat.mul_le_mul_right _ (by omega)
  have e : (z + 1) * (z + 1) = z * z + 2 * z + 1 := by grind
  omega
 ·obtain ⟨g1, g2⟩ := Ki y1 y3 hn0
  have r1 : n / y ≤ n := Nat.div_le_self _ _
  rw [ed]
  generalize n / y = r at *
  have e2 : ((y : Int) + (r : Int)).tdiv 2 = (((y + r) / 2 : Nat) : Int) := by rw [Int.tdiv_eq_ediv_of_nonneg (by omega)]; omega
  rw [e2]
  refine ⟨by omega, by simp only [ZA]; omega, by simp only [ZA]; omega, by simp only [ZA]; omega, fun h => ⟨⟨by omega, by omega⟩, rfl, by rw [← g1 (by omega)]⟩, fun h => ⟨(y + r) / 2, ⟨⟨(g2 (by omega)).1, by omega, (g2 (by omega)).2⟩, by omega⟩, rfl⟩⟩
theorem JO {G : List (Nat × Obj)} (hG : zN G) (a : List UInt8) (hi : Zx a = true) (h0 : 0 < zX a) (hl : a.length ≤ 18) : zU Tryz.prog G 161 [.str a] (.tup 2 (zw [.str (Lib.itoa (ZC (zX a).toNat)), .i 0])) :=
 zW (T := (oQ G).plus 145 VO) (an := Jh (zX a).toNat) mixed (zz.plus (yO hG) (zO.mono SX)) (Eq.mp (by kernel_rfl) (LK G a hi h0 hl))
theorem iK {G : List (Nat × Obj)} (hG : zN G) : zO Tryz.prog G 161 qC := by
 intro xs ps r h hp
 unfold qC at h
 split at h
 ·skip
  rename_i a
  cases h
  obtain ⟨q0, q1, q2, -⟩ := ZH hp
  exact weaken (ys := [.str a]) ⟨zT _, trivial⟩ (JO hG a q0 q1 q2)
 ·cases h
noncomputable def ia (G : List (Nat × Obj)) : Tb := (((((((WA G).plus 144 vE).plus 99 uu).plus 116 SN).plus 143 uP).plus 148 uH).plus 150 tV).plus 103 WO |>.plus 161 qC
theorem QW {G : List (Nat × Obj)} (hG : zN G) : zz Tryz.prog (ia G) := zz.plus (zz.plus (zz.plus (zz.plus (zz.plus (zz.plus (zz.plus (zz.plus zo (zO.mono RQ)) (zO.mono px)) (zO.mono Ob)) (zO.mono pY)) (zO.mono QH)) (zO.mono qg)) (tC hG)) (iK hG)
def il (n : Nat) : yq :=
 .two .auto (.two .auto (.two .auto (.two .auto (.two .auto (.two .auto (.two .auto (.one (.loop Nat (fun σ z => [(5, σ.tm 5), (6, ZD (zu 1000000000 z))]) (fun σ z => []) 0 (fun σ z => 0 < z ∧ n < (z + 1) * (z + 1) ∧ z ≤ 10 ^ 40) (fun σ z => z) .auto))))))))
def Ml : List AV → Option (List zk × AV)
 | [.str a] => some ([.p (Zx a = true), .p (0 < zX a), .p (a.length ≤ 78)], .tup 2 (zw [.str (Lib.itoa (ZC (zX a).toNat)), .i 0]))
 | _ => none
theorem JY (G : List (Nat × Obj)) (a : List UInt8) (hi : Zx a = true) (h0 : 0 < zX a) (hl : a.length ≤ 78) :
 let q1 := (True ∧ bA #[] = itoa (cI (ZC (Int.toNat (zX a))))); let q2 := (Int.tdiv ((lZ a) + iO) (2 : Int)); let q3 := (Int.toNat q2); let q4 := (bA #[(49 : UInt8)] ++ List.replicate q3 (48 : UInt8)); let q6 := (zu 1000000000 (Int.natAbs (zX a))); let q5 := (xI q6); let q7 := (zu 1000000000 (Int.natAbs (zX q4))); let q10 := (zV q5); let q20 := (AV.xl true 1 1 (Sx.rowAt [fun (x : Nat)
 => aI (2 : Int)])); let q19 := (zV q20); Zv [AV.str a] → lN a ≤ nM ∧ zZ (ZR a != iZ) (j2 ∧ q1 ∧ kI ∧ ZR a = iZ) (bF (DB.db (iZ ≤ iZ ∧ iZ < (lZ a))) (zZ ((cI (UInt8.toNat (gD a 0 (0 : UInt8)))) == (45 : Int)) (j2 ∧ q1 ∧ kI ∧ (2 : Int) = iZ) (zZ (a == bA #[(48 : UInt8)]) (j2 ∧ (True ∧ a = itoa
 (cI (ZC (Int.toNat (zX a))))) ∧ kI ∧ iZ = iZ) (Zx a = true ∧ lN a ≤ 100000000 ∧ zZ (leB (lZ a) (18 : Int)) (Zx a = true ∧ iZ < zX a ∧ lN a ≤ 18 ∧ j2 ∧ (True ∧ itoa (cI (ZC (Int.toNat (zX a)))) = itoa (cI (ZC (Int.toNat (zX a))))) ∧ kI ∧ iZ = iZ) (bF (dK ((lZ a) + iO)) (bF (dK q2) ((iZ ≤ Int.tdiv ((lZ a) + iO) (2 : Int) ∧ Int.tdiv
 ((lZ a) + iO) (2 : Int) ≤ (40 : Int)) ∧ bF (DB.db (1 + lN (List.replicate q3 (48 : UInt8)) ≤ nX)) (Zx q4 = true ∧ lN q4 ≤ 100000000 ∧ (∃ (z : Nat), ((0 < z ∧ Int.toNat (zX a) < (z + 1) * (z + 1) ∧ z ≤ 10000000000000000000000000000000000000000) ∧ zb q5 q5 ∧ (false = true → false = true) ∧ 1 = 1 ∧ lN (zu 1000000000 z) = lN q7 ∧ ∀ (i j : Nat), i < lN q7 → j < 1 → kI ∧ gD q7 i zS.dflt = gD (zu 1000000000 z) i zS.dflt) ∧ True) ∧ ∀ (z : Nat), let q9 := (AV.xl false 1
 (lN (zu 1000000000 z)) fun i j => aI (gD (zu 1000000000 z) i zS.dflt)); let q8 := (zC Int q9); let q12 := (zV q9); let q11 := (∀ (x : Int), List.Mem x q12 → iZ ≤ x ∧ x < iB); let q14 := (zu 1000000000 (Int.toNat (zv iB q10) / Int.toNat (zv iB q12))); let q13 := (xI q14); let q15 := (zV q13); let q17 := (zu 1000000000 (Int.toNat (zv iB q12 + zv iB q15))); let
 q16 := (xI q17); let q18 := (zV q16); let q23 := (zv iB q18); let q22 := (zu 1000000000 (Int.toNat q23 / Int.toNat (zv iB q19))); let q21 := (xI q22); let q25 := (AV.agg 2 (zw [AV.v (Array.getD (Value.cells (Value.agg #[Value.bool false, Value.slice (X9 Addr) 0 0])) 0 undef), AV.xl false 1 (lN (zu 1000000000 z)) fun i j => aI (gD (zu
 1000000000 z) i zS.dflt)])); let q27 := (yR q25); let q26 := (Big.l q27); let q28 := (Yz (Big.neg q27) q26); 0 < z ∧ Int.toNat (zX a) < (z + 1) * (z + 1) ∧ z ≤ 10000000000000000000000000000000000000000 → bF (zC Int q5) (bF q8 ((∀ (x : Int), List.Mem x q10 → iZ ≤ x ∧ x < iB) ∧ q11 ∧ zH q10 = zV q5 ∧ zH q12 = zV q9 ∧ lN q12 ≠ 0 ∧ lN q10 ≤ 100000000 ∧ lN q12 ≤ 100000000 ∧ bF q8 (bF (zC Int q13) (q11 ∧ (∀ (x : Int), List.Mem x q15 → iZ ≤ x ∧ x < iB) ∧ lN q12 ≤ 1000000000 ∧
 lN q15 ≤ 1000000000 ∧ bF (zC Int q16) ((∀ (x : Int), List.Mem x q18 → iZ ≤ x ∧ x < iB) ∧ (∀ (x : Int), List.Mem x (zV (AV.xl true 1 1 (Sx.rowAt [fun (x : Nat) => aI (2 : Int)]))) → iZ ≤ x ∧ x < iB) ∧ zH q18 = zV q16 ∧ zH q19 = zV q20 ∧ lN q19 ≠ 0 ∧ lN q18 ≤ 100000000 ∧ lN q19 ≤ 100000000 ∧ bF (zC Int q21) (bF q8 ((∀ (x : Int), let q24 := (zu 1000000000 (Int.toNat q23 / Int.toNat (zv iB (zV (AV.xl true 1 1 (Sx.rowAt [fun (x : Nat) => AV.v
 (Value.int .i64 (2 : Int))])))))); List.Mem x (zV (xI q24)) → iZ ≤ x ∧ x < iB) ∧ q11 ∧ zZ (leB iZ (Ar.cmpL (zV q21) q12)) (bF (yp Big q25) ((∀ (x : Int), List.Mem x q26 → iZ ≤ x ∧ x < iB) ∧ zH q26 = Big.l q27 ∧ lN q26 ≤ 100000000 ∧ j2 ∧ (True ∧ Yi q28 = itoa (cI (ZC (Int.toNat (zX a))))) ∧ kI ∧ ZM q28 = iZ)) (∃ (z' : Nat), (((0 < z' ∧ Int.toNat (zX a) <
 (z' + 1) * (z' + 1) ∧ z' ≤ 10000000000000000000000000000000000000000) ∧ z' < z) ∧ zb q5 q5 ∧ (false = true → false = true) ∧ 1 = 1 ∧ lN (zu 1000000000 z') = lN q22 ∧ ∀ (i j : Nat), i < lN q22 → j < 1 → kI ∧ gD q22 i zS.dflt = gD (zu 1000000000 z') i zS.dflt) ∧ True)))))))))))))))) := by
 delta bF dK bA xI nX nM cI kI j2 lZ lN gD iZ iO iB aI
 dsimp only
 intro hb
 have e0 : (zS.dflt : Int) = 0 := rfl
 simp only [↓yx, ↓ZI, row_one]
 have hE : ZR a = 0 := yS.2 ⟨hi, by have := (wN a).1; omega⟩
 obtain ⟨n, hn⟩ : ∃ n : Nat, zX a = n := ⟨(zX a).toNat, by omega⟩
 have hb2 : (zX a).natAbs < 10 ^ a.length := Pk hi
 rw [hn, Int.natAbs_natCast] at hb2
 have h48 : (a == [48]) = false := beq_eq_false_iff_ne.2 fun e => by
  rw [e] at h0
  exact absurd h0 (by decide)
 have h45 : ((a.getD 0 0).toNat : Int) ≠ 45 := fun e => by
  rcases yG hi with ⟨r, rfl, _, _, g3⟩ | ⟨g1, g3⟩
  ·rw [g3] at h0; omega
  ·have hm : zJ a = false := by
    cases hm : zJ a with
    | false => rfl
    | true =>
     match a, hm, g1 with
     | c :: r, hm, g1 =>
      have hc : c = 45 := eq_of_beq hm
      subst hc
      exact (wZ g1).elim
   match a, g1, e, hm with
   | c :: r, g1, e, hm =>
    have e : (c.toNat : Int) = 45 := e
    have : c = 45 := UInt8.toNat.inj (by show c.toNat = 45; omega)
    rw [this] at hm
    cases hm
 have hl0 : 0 < a.length := Nat.pos_of_ne_zero fun e => by rw [List.eq_nil_of_length_eq_zero e] at hi; cases hi
 simp only [sS, dS, e0, Xq, xu, xA, Y8, wm, Xo, wy, Xw, X6, li, xJ, LU, MM, QP]
 have ek : ((a.length : Int) + 1).tdiv 2 = (((a.length + 1) / 2 : Nat) : Int) := by rw [Int.tdiv_eq_ediv_of_nonneg (by omega)]; omega
 have hk : 10 ^ a.length ≤ 10 ^ ((a.length + 1) / 2) * 10 ^ ((a.length + 1) / 2) := by
  rw [← Nat.pow_add]
  exact Nat.pow_le_pow_right (by omega) (by omega)
 have hk2 : 10 ^ ((a.length + 1) / 2) ≤ 10 ^ 40 := Nat.pow_le_pow_right (by omega) (by omega)
 have hk3 : 0 < 10 ^ ((a.length + 1) / 2) := Nat.pow_pos (by omega)
 have hl2 := wH (n := n) (k := 78) (Nat.lt_of_lt_of_le hb2 (Nat.pow_le_pow_right (by omega) hl))
 rw [hE, ek, Int.toNat_natCast, hn, Int.toNat_natCast, Int.natAbs_natCast]
 rw [hn] at h0
 have hn0 : 0 < n := by omega
 refine ⟨by omega, fun h => absurd rfl h, fun _ => ⟨⟨by omega, by omega⟩, fun h => absurd h h45, fun _ => zY.2 ⟨fun c => (by rw [h48] at c; cases c), fun _ => ⟨hi, by omega, fun h => ⟨hi, by omega, by omega, rfl⟩, fun h18 => ?_⟩⟩⟩⟩
 obtain ⟨t1, t2⟩ := Ps ((a.length + 1) / 2)
 have et : ([49] ++ List.replicate ((a.length + 1) / 2) 48 : zI) = 49 :: List.replicate ((a.length + 1) / 2) 48 := rfl
 rw [et, t2, Int.natAbs_natCast]
 generalize hKK : (a.length + 1) / 2 = K at *
 generalize 10 ^ K = Z at *
 refine ⟨by simp only [ZA]; omega, by simp only [ZA]; omega, ⟨by omega, by omega⟩, by rw [List.length_replicate]; omega, t1, by rw [List.length_cons, List.length_replicate]; omega, ⟨Z, ⟨hk3, ?_, hk2⟩, fun h => h, rfl, fun _ _ _ _ => rfl⟩, fun z ⟨z1, z2, z3⟩ => ?_⟩
 ·have e : (Z + 1) * (Z + 1) = Z * Z + 2 * Z + 1 := by grind
  omega
 have z3 : z ≤ 10 ^ 40 := Nat.le_trans z3 (Nat.le_of_eq (by decide))
 obtain ⟨g1, g2⟩ := Ki z1 z2 hn0
 have q1 : n / z ≤ n := Nat.div_le_self _ _
 have lz := wH (n := z) (k := 41) (Nat.lt_of_le_of_lt z3 (Nat.pow_lt_pow_right (by omega) (by omega)))
 have lq := yz (b := 1000000000) (by omega) q1
 have lz0 : (zu 1000000000 z).length ≠ 0 := fun e => by have := X0 (b := 1000000000) (by omega) e; omega
 generalize n / z = q at *
 have e2 : ((z : Int) + (q : Int)).toNat = z + q := by omega
 have e3 : Int.toNat 2 = 2 := rfl
 have hs : z + q < 10 ^ 79 := by
  have b1 : n < 10 ^ 78 := Nat.lt_of_lt_of_le hb2 (Nat.pow_le_pow_right (by omega) hl)
  have b2 : z < 10 ^ 78 := Nat.lt_of_le_of_lt z3 (Nat.pow_lt_pow_right (by omega) (by omega))
  have e : (10 : Nat) ^ 79 = 10 ^ 78 * 10 := rfl
  omega
 have ls := wH hs
 have o2 : ZP 1000000000 [2] := .one (by omega) (by omega)
 have cl := RJ (x := zu 1000000000 ((z + q) / 2)) (y := zu 1000000000 z) (Zf _).1 (Zf _).1 (Zf _).2 (Zf _).2
 rw [xJ, xJ] at cl
 rw [e2, e3]
 refine ⟨(Zf _).1, (Zf _).1, (Zf _).2, (Zf _).2, lz0, by omega, by omega, (Zf _).1, (Zf _).1, by omega, by omega, (Zf _).1, o2, (Zf _).2, by decide, by decide, by omega, by decide, (Zf _).1, (Zf _).1, fun hc => ?_, fun hc => ?_⟩
 ·have hle : z ≤ (z + q) / 2 := by have := cl.1 hc; omega
  have e := g1 hle
  obtain ⟨r1, r2⟩ := Zo (n := (z : Int)) (k := 41) (by omega) (by omega) (by rw [Int.natAbs_natCast]; exact Nat.lt_of_le_of_lt z3 (Nat.pow_lt_pow_right (by omega) (by omega)))
  rw [Wu, cond_false, r1, r2, ← e]
  exact ⟨(Zf _).1, (Zf _).2, by omega, rfl, rfl, rfl⟩
 ·have hlt : (z + q) / 2 < z := by
   refine Nat.lt_of_not_le fun hle => ?_
   have := cl.2 (by omega)
   omega
  obtain ⟨k1, k2⟩ := g2 hlt
  exact ⟨(z + q) / 2, ⟨⟨k1, k2, by omega⟩, hlt⟩, fun h => h, rfl, fun _ _ _ _ => rfl⟩
theorem Ij {G : List (Nat × Obj)} (hG : zN G) (a : List UInt8) (hi : Zx a = true) (h0 : 0 < zX a) (hl : a.length ≤ 78) : zU Tryz.prog G 117 [.str a] (.tup 2 (zw [.str (Lib.itoa (ZC (zX a).toNat)), .i 0])) :=
 zW (T := ia G) (an := il (zX a).toNat) mixed (QW hG) (Eq.mp (by kernel_rfl) (JY G a hi h0 hl))
theorem IN {G : List (Nat × Obj)} (hG : zN G) : zO Tryz.prog G 117 Ml := by
 intro xs ps r h hp
 unfold Ml at h
 split at h
 ·skip
  rename_i a
  cases h
  obtain ⟨q0, q1, q2, -⟩ := ZH hp
  exact weaken (ys := [.str a]) ⟨zT _, trivial⟩ (Ij hG a q0 q1 q2)
 ·cases h
end Go.Te
