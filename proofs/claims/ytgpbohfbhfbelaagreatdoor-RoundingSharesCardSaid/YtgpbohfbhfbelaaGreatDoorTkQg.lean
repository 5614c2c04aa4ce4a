/- surd: Check. -/
import Derived.Test.YtgpbohfbhfbelaaGreatDoorTkQc
import Derived.Shelf.Spec.SlicesGrow
import Derived.Test.YtgpbohfbhfbelaaGreatDoorSxJ
import Derived.Test.YtgpbohfbhfbelaaGreatDoorSxU
import Derived.Test.YtgpbohfbhfbelaaGreatDoorProg
import Derived.Shelf.Strings.Repeat
import Derived.Test.YtgpbohfbhfbelaaGreatDoorTkIf
import Derived.Test.YtgpbohfbhfbelaaGreatDoorSxDr
import Derived.Test.YtgpbohfbhfbelaaGreatDoorTkIk
import Derived.Test.YtgpbohfbhfbelaaGreatDoorArZ
set_option linter.unusedSimpArgs false
set_option linter.unusedVariables false
namespace Go.Te
open Go Go.Sx Go.Proofs Go.Ar
set_option maxRecDepth 100000
set_option maxHeartbeats 4000000
noncomputable def EV : Tb := (T0.plus 224 rK).body Tryz.prog [(218, .auto)]
theorem nG : zz Tryz.prog EV := zz.body mixed (zz.plus zr N7) _
theorem KD (s : List UInt8) (h : zg s = false) :
 zB [AV.str s, AV.str [(47 : UInt8)]] → leB iZ (Lib.indexByte s (47 : UInt8)) = false := by
 delta iZ
 intro hb
 refine Bool.eq_false_iff.2 fun e => ?_
 obtain ⟨z, _, hlt, _, hc⟩ := (SI 47 s).1 ((z8 _ _).1 e)
 have : zg s = true := List.any_eq_true.2 ⟨s.getD z 0, Wj hlt, by rw [hc]; rfl⟩
 rw [h] at this
 cases this
def RL : List AV → Option (List zN × AV)
 | [.str s, .str p] => some ([.b (p == [47]), .p (zg s = false)], .b false)
 | _ => none
theorem Kv : zQ Tryz.prog [] 183 RL := by
 intro xs ps r h hp
 unfold RL at h
 split at h
 ·rename_i s p
  cases h
  have q : (p == [47]) = true := hp _ List.mem_cons_self
  have q1 : zg s = false := hp _ (List.mem_cons_of_mem _ List.mem_cons_self)
  obtain rfl := eq_of_beq q
  exact zW mixed nG (Eq.mp (by kernel_rfl) (KD s q1) : vP Tryz.prog EV 183 .auto [.str s, .str [47]] (.b false))
 ·cases h
structure iF (t : Tm) : Prop where
 ne : t.c ≠ 0
 bc : bq 60 t.c
 nat : yw RM t
 nrm : nrm (mQ t.q) = (1, mQ t.q)
theorem IZ {t : Tm} (h : iF t) : Lb (zu t.q) ∧ nK t.q = 1 ∧ nL t.q = t.q ∧ zg (zu t.q) = false ∧ t.q ≠ 0 := by
 obtain ⟨b1, p1, d1, n1⟩ := WI h.nat (by decide)
 obtain ⟨e, h0, h1⟩ := h.nat.mQ
 refine ⟨⟨(Zm (by decide) (by decide)).2 (b1.mono (by decide)), by rw [zn]; exact p1, ?_⟩, ?_, ?_, ?_, Rat.ne_of_gt p1⟩
 ·rw [zn]
  have a1 : Xu t.q.num ≤ 8 := x5 (by decide) b1.num
  have a2 : Lib.nDigits t.q.den ≤ 8 := (ZX (by decide)).2 b1.den
  omega
 ·unfold nK
  rw [h.nrm, d1]
  exact (show mkRat 1 1 = 1 by decide +kernel)
 ·unfold nL
  rw [h.nrm]
  exact e.symm
 ·rw [e, Xn]
  exact (Mv _).2.2.1
noncomputable def Er (G : List (Nat × Obj)) : Tb := (((((Xz G).plus 29 uV).plus 102 (Yq fun s => .b (zJ s))).plus 184 UP).plus 182 UN).plus 183 RL
theorem nI {G : List (Nat × Obj)} (hG : zO G) : zz Tryz.prog (Er G) := zz.plus (zz.plus (zz.plus (zz.plus (zz.plus zr (TP hG)) (zQ.mono RR)) (oV hG)) (og hG)) (zQ.mono Kv)
def U4 : List AV → Option (List zN × AV)
 | [x_t] => some ([.b (yo Tm x_t), .p (iF (yR (α := Tm) x_t))], .i 0)
 | _ => none
theorem nR (G : List (Nat × Obj)) (t : Tm) (ht : iF t) :
 let q1 := (ByteArray.data (ByteArray.mk #[(48 : UInt8)])); let q3 := (zM (60 : Int) (WP (zP (zu (Tm.c t))))); let q2 := (!zS false q3 || zS false q3); let q4 := (ByteArray.data (ByteArray.mk #[(49 : UInt8)])); let q5 := (kI ∧ iZ = iZ); let q6 := (!zS false (zJ (zu (Tm.q t))) || zS false (zJ (zu (Tm.q t)))); let q8 := (bif zJ (zu (Tm.q t)) then true else zu (Tm.q t) == Array.toList q1); let q7 := (!zS false q8 || zS false q8); let q9 := (kI ∧ (8 : Int) = iZ); let q11 := (bif iZ != iZ then true else
 !zu (nK (zP (zu (Tm.q t)))) == Array.toList q4); let q10 := (!zS false q11 || zS false q11); zB [AV.agg 2 (zR.enc t)] → yX 300 (zu (Tm.c t)) ∧ yX 300 (zu (Tm.q t)) ∧ zZ (zu (Tm.c t) == Array.toList q1) (kI ∧ (12 : Int) = iZ) (yX 300 (zu (Tm.c t)) ∧ bF q2 (bF q2 ((zS false q3 = true → yX 300 (zu (Tm.q t))) ∧ bF q2 (bF (!!zM (60 : Int) (WP (zP (zu (Tm.c t)))) || zS false q3) (zZ (bif zM (60 : Int) (WP (zP (zu (Tm.c t)))) then true else zM (40 : Int) (WP (zP (zu (Tm.q t))))) (kI ∧ (4 :
 Int) = iZ) (zZ (zu (Tm.q t) == Array.toList q4) q5 (bF q6 (bF q6 (bF (!!zJ (zu (Tm.q t)) || zS false (zJ (zu (Tm.q t)))) (bF q7 (bF q7 (bF (!zS false q8 || bA #[(47 : UInt8)] == [(47 : UInt8)]) ((zS false q8 = true → zg (zu (Tm.q t)) = false) ∧ bF ((!!bif zJ (zu (Tm.q t)) then true else zu (Tm.q t) == Array.toList q1) || zS false q8) (zZ (bif bif zJ (zu (Tm.q t)) then true else zu (Tm.q t) == Array.toList q1 then true else false) q9 (Lb (zu (Tm.q t)) ∧ bF q10 (zZ
 q10 (bF q10 (bF ((!!bif iZ != iZ then true else !zu (nK (zP (zu (Tm.q t)))) == Array.toList q4) || zS false q11) (zZ (bif bif iZ != iZ then true else !zu (nK (zP (zu (Tm.q t)))) == Array.toList q4 then true else !zu (nL (zP (zu (Tm.q t)))) == zu (Tm.q t)) q9 q5))) False)))))))))))))))) := by
 delta bF bA kI iZ
 dsimp only
 intro hb
 simp only [sS, Z2, ZL, zn, ZQ, xi, YU, yx, dS]
 obtain ⟨q1, q2, q3, q4, q5⟩ := IZ ht
 obtain ⟨b1, p1, d1, n1⟩ := WI ht.nat (by decide)
 have o1 : yX 300 (zu t.c) := (Zm (by decide) (by decide)).2 (ht.bc.mono (by decide))
 have o2 : yX 300 (zu t.q) := (Zm (by decide) (by decide)).2 (b1.mono (by decide))
 have hm : zJ (zu t.q) = false := UR o2.1 (by rw [zn]; exact Rat.le_of_lt p1)
 have l60 : zM 60 (WP t.c) = false := Bool.eq_false_iff.2 fun e => by
  have := (zq _ _).1 e
  have := VL (by decide) ht.bc
  omega
 have l40 : zM 40 (WP t.q) = false := Bool.eq_false_iff.2 fun e => by
  have := (zq _ _).1 e
  have := VL (by decide) b1
  omega
 have z1 : (zu t.c == [48]) = false := by rw [ws]; exact decide_eq_false ht.ne
 have z2 : (zu t.q == [48]) = false := by rw [ws]; exact decide_eq_false q5
 have z3 : (zu (1 : Rat) == [49]) = true := by rw [qM]; decide
 rw [z1, l60, l40, hm, z2, q2, q3, z3]
 refine ⟨o1, o2, zY.2 ⟨fun c => (by cases c), fun _ => ⟨o1, fun _ => o2, zY.2 ⟨fun c => (by cases c), fun _ => zY.2 ⟨fun _ => trivial, fun _ => zY.2 ⟨fun _ => ⟨fun _ => q4, zY.2 ⟨fun c => (by cases c), fun _ => ⟨q1, zY.2 ⟨fun c => ?_, fun _ => trivial⟩⟩⟩⟩, fun c => (by cases c)⟩⟩⟩⟩⟩⟩
 simp at c
theorem Lk {G : List (Nat × Obj)} (hG : zO G) (t : Tm) (ht : iF t) : zv Tryz.prog G 121 [yD t] (.i 0) :=
 zW (T := Er G) (an := .auto) mixed (nI hG) (Eq.mp (by kernel_rfl) (nR G t ht))
theorem lJ {G : List (Nat × Obj)} (hG : zO G) : zQ Tryz.prog G 121 U4 := by
 intro xs ps r h hp
 unfold U4 at h
 split at h
 ·skip
  rename_i x_t
  cases h
  obtain ⟨q0, q1, -⟩ := ZT hp
  exact weaken (ys := [yD (yR (α := Tm) x_t)]) ⟨zD q0, trivial⟩ (Lk hG (yR (α := Tm) x_t) q1)
 ·cases h
theorem Yn (x : Tm) (z : Nat → AV) : yR (AV.agg 2 fun i => if i < 2 then zR.enc x i else z i) = x := by
 show (⟨zP (zu x.c), zP (zu x.q)⟩ : Tm) = x
 rw [zn, zn]
theorem yp (x : Tm) (z : Nat → AV) : yo Tm (AV.agg 2 fun i => if i < 2 then zR.enc x i else z i) = true := by
 show ((true && uX (zu x.c)) && (true && uX (zu x.q))) = true
 rw [wk, wk]; rfl
structure wL (s : List Tm) : Prop where
 g : gS RM s
 len : s.length ≤ 16
 bc : ∀ x ∈ s, bq 60 x.c
def Hv  : yV :=
 .two .auto (.two (.two .auto (.one (.loop Nat (fun σ z => [(0, σ.tm 0), (1, σ.tm 1), (7, σ.tm 7), (8, .i (z : Int))]) (fun σ z => []) 0 (fun σ z => 0 ≤ z) (fun σ z => 100 - z) .auto))) .auto)
def ib (s : List Tm) : yV :=
 .two .auto (.two .auto (.two (.two .auto (.one (.loop Nat (fun σ z => [(0, σ.tm 0), (11, σ.tm 11), (12, σ.tm 12), (13, .i (z : Int))]) (fun σ z => []) 0 (fun σ z => z ≤ s.length) (fun σ z => s.length - z) .auto))) .auto))
noncomputable def Gd (G : List (Nat × Obj)) : Tb := ((((Xz G).plus 121 U4).plus 12 Sb).plus 123 U7).body Tryz.prog [(122, .auto)]
theorem pY {G : List (Nat × Obj)} (hG : zO G) : zz Tryz.prog (Gd G) := zz.body mixed (zz.plus (zz.plus (zz.plus zr (lJ hG)) (pJ hG)) (pF hG)) _
noncomputable def Eu (G : List (Nat × Obj)) : Tb := ((Gd G).body Tryz.prog [(154, Hv)]).body Tryz.prog [(93, .auto)]
theorem O7 {G : List (Nat × Obj)} (hG : zO G) : zz Tryz.prog (Eu G) := zz.body mixed (zz.body mixed (pY hG) _) _
def su : List AV → Option (List zN × AV)
 | [x_s] => some ([.b (ze Tm x_s), .p (wL (Zn (α := Tm) x_s))], .i 0)
 | _ => none
theorem Ih (G : List (Nat × Obj)) (s : List Tm) (hs : wL s) :
 let q1 := (AV.xl false 2 (lN s) fun i j => zR.enc (gD s i zR.dflt) j); let q2 := (kI ∧ (lZ s) = (lZ s)); let q11 := (AV.fn (Fn.func 122) 0 (fun (i : Nat) => AV.junk) 1 fun i => Option.getD [AV.np (nat_lit 0) 0][i]? AV.junk); zB [AV.xl false 2 (lN s) fun i j => zR.enc (gD s i zR.dflt) j] → zZ (zM (16 : Int) (lZ s)) (kI ∧ (4 : Int) = iZ) ((∃ (z : Nat), (z ≤ lN s ∧ zi q1 q1 ∧ zi q1 q1 ∧ q2 ∧ kI ∧ iZ = (cI z)) ∧ True) ∧ ∀ (z :
 Nat), let q4 := (gD s (Int.toNat (cI z)) zR.dflt); let q3 := (AV.agg 2 fun (i : Nat) => if 0 ≤ 0 + i ∧ 0 + i < 2 then zR.enc q4 (0 + (0 + i - 0)) else ZC (Value.agg #[Value.string (ByteArray.mk #[]), Value.string (ByteArray.mk #[])]) (0 + i)); let q5 := (bF (dK ((cI z) + iO)) (∃ (z' : Nat), ((z' ≤ lN s ∧ lN s - z' < lN s - z) ∧ zi q1 q1 ∧ zi q1 q1 ∧ q2 ∧ kI ∧ (cI z) + iO = (cI z')) ∧ True)); let q6 := (zu (Tm.q (gD s (Int.toNat ((cI z) - iO)) zR.dflt))); let q8 :=
 (Tm.q q4); let q7 := (zu q8); let q9 := (zP q7); let q10 := (AV.xl false 2 (Int.toNat (cI z)) fun i j => zR.enc (gD s i zR.dflt) j); let q12 := (kI ∧ (cI (Int.toNat (↑z : Int))) = (cI (Int.toNat (↑z : Int)))); let q13 := (Tm.c q4); z ≤ lN s → zZ (zM (cI z) (lZ s)) (bF (DB.db (iZ ≤ (cI z) ∧ (cI z) < (lZ s))) (bF (yo Tm q3) (iF (yR q3) ∧ zZ ((cI z) == iZ) q5 (bF (dK ((cI z) - iO)) (bF (DB.db (iZ ≤ (cI z) - iO ∧
 (cI z) - iO < (lZ s))) (UU 140 q6 q7 ∧ zZ (bif iZ != iZ then true else leB iZ (WX (zP q6) q9)) (kI ∧ (10 : Int) = iZ) (bF (DB.db (iZ ≤ (cI z) ∧ (cI z) ≤ (lZ s))) ((∃ (z_1 : Nat), (0 ≤ z_1 ∧ zi q10 q10 ∧ zi q11 q11 ∧ q12 ∧ kI ∧ iZ = (cI z_1)) ∧ 40 = 40 ∧ 2 = 2 ∧ zu q13 = zu q13 ∧ zu q8 = zu q8) ∧ ∀ (z_1 : Nat), let q14 := (zu (Tm.q (gD s (Int.toNat (cI z_1)) zR.dflt))); 0 ≤ z_1 → zZ (zM (cI z_1) (↑(Int.toNat (cI z))
 : Int)) (bF (DB.db (iZ ≤ (cI z_1) ∧ (cI z_1) < (cI (Int.toNat (↑z : Int))))) (Jl q7 q14 ∧ zZ (bif iZ == iZ then y7 q9 (zP q14) else false) (kI ∧ (7 : Int) = iZ) (bF (dK ((cI z_1) + iO)) (∃ (z' : Nat), ((0 ≤ z' ∧ 100 - z' < 100 - z_1) ∧ zi q10 q10 ∧ zi q11 q11 ∧ q12 ∧ kI ∧ (cI z_1) + iO = (cI z')) ∧ 40 = 40 ∧ 2 = 2 ∧ zu q13 = zu q13 ∧ zu q8 = zu q8)))) q5)))))))) (kI ∧ iZ = iZ)) := by
 delta bF dK cI kI lZ lN gD iZ iO
 dsimp only
 intro hb
 simp only [↓Zf, ↓Zu, row_one]
 simp only [sS, Z2, ZL, zn, ZQ, xi, YU, yx, dS, Yn, yp]
 have hl := hs.len
 have gd : ∀ x ∈ s, iF x := fun x hx => ⟨hs.g.ne x hx, hs.bc x hx, hs.g.nat x hx, hs.g.nrm x hx⟩
 have pw : ∀ (P : Tm → Tm → Prop), s.Pairwise P → ∀ i j, i < j → j < s.length → P (s.getD i zR.dflt) (s.getD j zR.dflt) := fun P hP i j hij hj => by
  have := (List.pairwise_iff_getElem.1 hP) i j (by omega) hj hij
  rw [List.getD_eq_getElem?_getD, List.getD_eq_getElem?_getD, List.getElem?_eq_getElem hj, List.getElem?_eq_getElem (show i < s.length by omega)]
  exact this
 refine ⟨fun h => by omega, fun _ => ⟨⟨0, Nat.zero_le _, rfl⟩, fun z hz => ⟨fun hlt => ?_, fun _ => trivial⟩⟩⟩
 have hzl : z < s.length := by omega
 have g1 := gd _ (yc hzl)
 refine ⟨⟨by omega, by omega⟩, g1, fun h0 => ⟨by simp only [ZB]; omega, z + 1, ⟨by omega, by omega⟩, by omega⟩, fun h0 => ?_⟩
 have e1 : ((z : Int) - 1).toNat = z - 1 := by omega
 rw [e1]
 have g2 := gd _ (yc (show z - 1 < s.length by omega))
 have hlt2 : (s.getD (z - 1) zR.dflt).q < (s.getD z zR.dflt).q := by
  have h1 := pw Ia hs.g.le (z - 1) z (by omega) hzl
  have h2 := lc g2.nat (pw unr hs.g.unr (z - 1) z (by omega) hzl)
  exact Rat.lt_of_le_of_ne h1 h2
 have hc : leB 0 (WX (s.getD (z - 1) zR.dflt).q (s.getD z zR.dflt).q) = false := Bool.eq_false_iff.2 fun e => by
  have := (z8 _ _).1 e
  have := (UQ _ _).2 hlt2
  omega
 rw [hc]
 have oq : ∀ x : Tm, iF x → yX 140 (zu x.q) := fun x hx => (Zm (by decide) (by decide)).2 ((WI hx.nat (by decide)).1.mono (by decide))
 refine ⟨by simp only [ZB]; omega, ⟨by omega, by omega⟩, ⟨oq _ g2, oq _ g1⟩, zY.2 ⟨fun c => (by cases c), fun _ => ⟨⟨by omega, by omega⟩, ⟨0, rfl⟩, fun k _ => ⟨fun hk => ?_, fun hk => ⟨by simp only [ZB]; omega, z + 1, ⟨by omega, by omega⟩, by omega⟩⟩⟩⟩⟩
 have g3 := gd _ (yc (show k < s.length by omega))
 have hr : y7 (s.getD z zR.dflt).q (s.getD k zR.dflt).q = false := (UO g1.nat g3.nat (by decide)).2 (pw unr hs.g.unr k z (by omega) hzl).symm
 rw [hr]
 exact ⟨⟨by omega, by omega⟩, pn g1.nat g3.nat, zY.2 ⟨fun c => (by cases c), fun _ => ⟨by simp only [ZB]; omega, k + 1, by omega, by omega⟩⟩⟩
theorem fF {G : List (Nat × Obj)} (hG : zO G) (s : List Tm) (hs : wL s) : zv Tryz.prog G 69 [Zl s] (.i 0) :=
 zW (T := Eu G) (an := ib s) mixed (O7 hG) (Eq.mp (by kernel_rfl) (Ih G s hs))
theorem OU {G : List (Nat × Obj)} (hG : zO G) : zQ Tryz.prog G 69 su := by
 intro xs ps r h hp
 unfold su at h
 split at h
 ·skip
  rename_i x_s
  cases h
  obtain ⟨q0, q1, -⟩ := ZT hp
  exact weaken (ys := [Zl (Zn (α := Tm) x_s)]) ⟨zI q0, trivial⟩ (fF hG (Zn (α := Tm) x_s) q1)
 ·cases h
end Go.Te

namespace Go.Proofs
open Go.Shelf
def Tryz.growCut_ren : Go.Shelf.Ren := ⟨fun | 4 => 215 | n => n, fun | 22 => 42 | 25 => 40 | 3 => 3 | 4 => 4 | 9 => 9 | 20 => 20 | 0 => 0 | n => n, fun | n => n⟩
theorem Tryz.growCut : Go.Proofs.Lays8.n4 Tryz.prog Tryz.growCut_ren := {
 mixed := by kernel_rfl
 f4 := ⟨Tryz.f215.name, by decide, Tryz.func215.trans (congrArg some (by kernel_rfl))⟩
 t0 := Tryz.underlying0
 a0 := Tryz.isAgg0
 z0 := Tryz.sizeOf0
 v0 := Tryz.zeroValue0
 t3 := Tryz.underlying3
 a3 := Tryz.isAgg3
 z3 := Tryz.sizeOf3
 v3 := Tryz.zeroValue3
 t4 := Tryz.underlying4
 a4 := Tryz.isAgg4
 z4 := Tryz.sizeOf4
 v4 := Tryz.zeroValue4
 t9 := Tryz.underlying9
 a9 := Tryz.isAgg9
 z9 := Tryz.sizeOf9
 v9 := Tryz.zeroValue9
 t20 := Tryz.underlying20
 a20 := Tryz.isAgg20
 z20 := Tryz.sizeOf20
 v20 := Tryz.zeroValue20
 t22 := Tryz.underlying42
 a22 := Tryz.isAgg42
 z22 := Tryz.sizeOf42
 v22 := Tryz.zeroValue42 }
end Go.Proofs
namespace Go.Te
open Go Go.Sx Go.Proofs Go.RowKit Go.Shelf
set_option maxHeartbeats 4000000
set_option maxRecDepth 100000
def Oy (nb : Nat) (bl : Nat → OB) (xs : List AV) (K : Nat → (Nat → OB) → AV → Prop) : Prop :=
 match xs with
 | [.v (.slice none 0 0), .v (.int .i64 n)] => (0 ≤ n ∧ n ≤ 100000) ∧ K (nb + 1) (upd bl nb (.arr 40 2 0 fun _ _ => .junk)) (.ns nb 0 0)
 | _ => Ze xs
theorem LU (bl : Nat → OB) (nb : Nat) : upd bl nb (.arr 40 2 (0 + 0) fun a b => if a < 0 then AV.junk else AV.junk) = upd bl nb (.arr 40 2 0 fun _ _ => .junk) := by
 congr 2
theorem NA (G : List (Nat × Obj)) : UW Tryz.prog G 215 Oy := by
 refine ⟨enters_of Tryz.func215 (by kernel_rfl) rfl, ?_, ?_⟩
 ·intro nb bl xs k k' hk h
  unfold Oy at h ⊢
  split at h
  ·exact ⟨h.1, hk _ _ _ h.2⟩
  ·exact h
 ·intro E nb bl S ρ w xs vs k _ hM hx h
  unfold Oy at h
  split at h
  ·rename_i n
   obtain ⟨hn, hk⟩ := h
   match vs, hx with
   | [v, v2], ⟨hv, hv2, _⟩ =>
   obtain rfl := ZS hv
   obtain rfl := ZS hv2
   obtain ⟨m, rfl⟩ : ∃ m : Nat, n = m := ⟨n.toNat, by omega⟩
   have fin : ∀ (w' : World) (v' : Value), Ub w w' 40 2 0 0 (.slice none 0 0) v' (fun _ _ => undef) (fun _ _ => undef) none →
     ∃ nb' bl' S' ρ' x rv, (Ending.returned v') = .returned rv ∧ k nb' bl' x ∧ Mem E nb' bl' S' ρ' w' ∧ (∀ b, S b → S' b ∧ w'.heap[b]? = w.heap[b]?) ∧ zG ρ ρ' ∧ zE w' S' ρ' x rv := fun w' v' hA => by
    obtain ⟨o, m1, m2, m3, m4⟩ := X4 (els := fun _ _ => .junk) (src := fun _ _ => .junk) hM hA (fun g hg => by cases hg) (fun i j hi => absurd hi (Nat.not_lt_zero _)) (fun i j hi => absurd hi (Nat.not_lt_zero _))
    rw [LU] at m1
    exact ⟨_, _, S, _, _, _, rfl, hk, m1, m3, m2, m4⟩
   by_cases h0 : m = 0
   ·subst h0
    refine (show Calls Tryz.prog 215 _ _ _ from Any8.slices_Grow_room Tryz.growCut none 0 0 0 w (Nat.le_refl _) (by omega) (by omega) (by omega)).mono ?_
    rintro e w' ⟨rfl, rfl⟩
    exact fin _ _ ⟨rfl, rfl, rfl, Nat.le_refl _, Nat.le_refl _, .inl ⟨none, rfl, rfl, rfl⟩⟩
   ·obtain ⟨i, hi, hz, hs, hby⟩ : ∃ i : TypeInfo, Tryz.prog.info? 40 = some i ∧ (∃ z, i.zero = some z ∧ z.cells.size = 2) ∧ i.size = 2 ∧ i.bytes = 32 := by
     refine ⟨_, rfl, ⟨_, rfl, ?_⟩, ?_, ?_⟩ <;> kernel_rfl
    obtain ⟨z, hz1, hz2⟩ := hz
    refine (show Calls Tryz.prog 215 _ _ _ from Any8.slices_Grow_grow Tryz.growCut i z hi hz1 (by omega) none 0 0 m [] w (Nat.le_refl _) (by omega) (by rw [hby]; omega) (by omega) (by simp) (fun _ => rfl) (fun a ha => by cases ha)).mono ?_
    rintro e w' ⟨rfl, rfl⟩
    refine fin _ _ ?_
    refine ⟨rfl, rfl, rfl, by simp, Sz w 1, .inr ⟨w.heap.size, _, _, rfl, .inl rfl, Nat.zero_le _, ?_, heap_alloc_new w.drew _, ?_, fun b hb _ => heap_alloc_old w.drew _ hb, fun i j hi => absurd hi (Nat.not_lt_zero _), fun i j hi => absurd hi (Nat.not_lt_zero _)⟩⟩
    ·exact grownCap_le_maxLen w _ 0 40 (by unfold maxLen; omega)
    ·have hg := grownCap_ge w (0 + m) 0 40
     simp only [Array.size_append, List.size_toArray, List.length_nil, size_zeroCells, hz2, ← Nat.add_mul, Nat.zero_add]
     show (m - 0 + (grownCap w m 0 40 - m)) * 2 = grownCap w m 0 40 * 2
     rw [Nat.zero_add] at hg
     congr 1
     omega
  ·exact h.elim
end Go.Te

namespace Go.Te
open Go Go.Sx Go.Proofs Go.Ar
set_option maxRecDepth 100000
set_option maxHeartbeats 4000000
theorem YH (l : List Tm) : Zn (AV.xl false 2 l.length fun i j => zR.enc (l.getD i zR.dflt) j) = l := wH l
theorem ym (l : List Tm) : ze Tm (AV.xl false 2 l.length fun i j => zR.enc (l.getD i zR.dflt) j) = true := Xj l
theorem UF (s t : List Tm) : (AV.xl false 2 (s.length + t.length) fun i j => if i < s.length then (if i < 0 then AV.junk else zR.enc (s.getD i zR.dflt) j) else zR.enc (t.getD (i - s.length) zR.dflt) j) = AV.xl false 2 (s ++ t).length fun i j => zR.enc ((s ++ t).getD i zR.dflt) j := by
 rw [List.length_append]
 congr 1
 funext i j
 by_cases h : i < s.length
 ·rw [if_pos h, if_neg (Nat.not_lt_zero _), show (s ++ t).getD i zR.dflt = s.getD i zR.dflt by simp [List.getD_eq_getElem?_getD, List.getElem?_append_left h]]
 ·rw [if_neg h, show (s ++ t).getD i zR.dflt = t.getD (i - s.length) zR.dflt by simp [List.getD_eq_getElem?_getD, List.getElem?_append_right (Nat.le_of_not_lt h)]]
theorem LA : zP [45, 49] = -1 := by decide +kernel
def IP  : yV :=
 .two .auto (.two .auto (.two (.two .auto (.one (.unroll 3 .auto))) (.two .auto (.two (.two .auto (.one (.unroll 3 .auto))) .auto))))
def H4 (s : List Tm) (c : Rat) : yV :=
 .two .auto (.two .auto (.two (.two .auto (.one (.loop Nat (fun σ z => [(1, σ.tm 1), (11, σ.tm 11), (12, σ.tm 12), (6, .ns σ.nb 0 (Zq c (s.take z)).length), (13, .i (z : Int))]) (fun σ z => [(σ.nb, I6 40 (Zq c (s.take z)))]) 1 (fun σ z => z ≤ s.length) (fun σ z => s.length - z) .auto))) .auto))
def o8 : List AV → Option (List zN × AV)
 | [x_s, .str c] => some ([.b (ze Tm x_s), .p ((Zn (α := Tm) x_s).length ≤ 1000), .p (yX 10 c), .p (∀ x ∈ (Zn (α := Tm) x_s), bq 100 x.c)], .tup 2 (zw [Zl (Zq (zP c) (Zn (α := Tm) x_s)), .i 0]))
 | _ => none
theorem iv (G : List (Nat × Obj)) (s : List Tm) (c : List UInt8) (hl : s.length ≤ 1000) (hc : yX 10 c) (hs : ∀ x ∈ s, bq 100 x.c) :
 zB [AV.xl false 2 (lN s) fun i j => zR.enc (gD s i zR.dflt) j, AV.str c] → (∃ (z : Nat), (z ≤ lN s ∧ c = c ∧ zi (AV.xl false 2 (lN s) fun i j => zR.enc (gD s i zR.dflt) j) (AV.xl false 2 (lN s) fun i j => zR.enc (gD s i zR.dflt) j) ∧ (kI ∧ (lZ s) = (lZ s)) ∧ (some (Xd Nat) = some (Xd Nat) ∧ 0 = 0 ∧ lN (Zq (zP c) (List.take z s)) = 0) ∧ kI ∧ iZ = (cI z)) ∧ lN (Zq (zP c) (List.take z s)) = 0) ∧ ∀ (z : Nat), z ≤ lN s →
 zZ (zM (cI z) (lZ s)) (bF (DB.db (iZ ≤ (cI z) ∧ (cI z) < (lZ s))) (UU 140 (zu (Tm.c (gD s (Int.toNat (cI z)) zR.dflt))) c ∧ bF (DB.db ((lN (Zq (zP c) (List.take z s)) + 1) * 32 ≤ 140737488355328)) (bF (dK ((cI z) + iO)) (∃ (z' : Nat), ((z' ≤ lN s ∧ lN s - z' < lN s - z) ∧ c = c ∧ zi (AV.xl false 2 (lN s) fun i j => zR.enc (gD s i zR.dflt) j) (AV.xl false 2 (lN s) fun i j => zR.enc (gD s i zR.dflt) j) ∧
 (kI ∧ (lZ s) = (lZ s)) ∧ (nat_lit 0 = 0 ∧ 0 = 0 ∧ lN (Zq (zP c) (List.take z' s)) = lN (Zq (zP c) (List.take z s)) + 1) ∧ kI ∧ (cI z) + iO = (cI z')) ∧ (40 : TypeId) = 40 ∧ 2 = 2 ∧ lN (Zq (zP c) (List.take z' s)) = lN (Zq (zP c) (List.take z s)) + 1 ∧ ∀ (i j : Nat), i < lN (Zq (zP c) (List.take z s)) + 1 → j < 2 → zi (if i < lN (Zq (zP c) (List.take z s)) then zR.enc (gD (Zq (zP c) (List.take z s)) i zR.dflt) j else Sx.rowAt
 [zw [AV.str (zu (zP (zu (Tm.c (gD s (Int.toNat (cI z)) zR.dflt))) * zP c)), AV.str (zu (Tm.q (gD s (Int.toNat (cI z)) zR.dflt)))]] (i - lN (Zq (zP c) (List.take z s))) j) (zR.enc (gD (Zq (zP c) (List.take z' s)) i zR.dflt) j))))) (j2 ∧ (True ∧ zi (AV.xl false 2 (lN (Zq (zP c) (List.take z s))) fun i j => zR.enc (gD (Zq (zP c) (List.take z s)) (0 + i) zR.dflt) j) (AV.xl false 2 (lN (Zq (zP c) s)) fun i j => zR.enc (gD (Zq (zP c) s) i
 zR.dflt) j)) ∧ kI ∧ iZ = iZ) := by
 delta bF dK cI kI j2 lZ lN gD iZ iO
 intro hb
 simp only [↓Zf, ↓Zu, row_one]
 simp only [sS, Z2, ZL, zn, ZQ, xi, YU, yx, Yn, yp, YH, ym, UF, LA, dS]
 have key : ∀ z, z < s.length → Zq (zP c) (s.take (z + 1)) = Zq (zP c) (s.take z) ++ [⟨(s.getD z zR.dflt).c * zP c, (s.getD z zR.dflt).q⟩] := fun z hz => by
  rw [SQ hz]
  unfold Zq
  rw [List.map_append]; rfl
 have len : ∀ z, (Zq (zP c) (s.take z)).length ≤ s.length := fun z => by
  unfold Zq
  rw [List.length_map, List.length_take]; omega
 refine ⟨⟨0, ⟨Nat.zero_le _, rfl, rfl⟩, rfl⟩, fun z hz => ⟨fun hlt => ?_, fun hge => ?_⟩⟩
 ·have k := key z (by omega)
  have l1 := len z
  refine ⟨⟨by omega, by omega⟩, ⟨(Zm (by decide) (by decide)).2 ((hs _ (yc (by omega))).mono (by decide)), hc.mono (by decide)⟩, by omega, by simp only [ZB]; omega, z + 1, ⟨⟨by omega, by omega⟩, by rw [k]; simp, by omega⟩, by rw [k]; simp, fun i j hi hj => ?_⟩
  rw [k]
  exact Lu _ ⟨(s.getD z zR.dflt).c * zP c, (s.getD z zR.dflt).q⟩ i j hi
 ·obtain rfl : z = s.length := by omega
  rw [List.take_length]
  exact ⟨rfl, zV _⟩
theorem Gw {G : List (Nat × Obj)} (hG : zO G) (s : List Tm) (c : List UInt8) (hl : s.length ≤ 1000) (hc : yX 10 c) (hs : ∀ x ∈ s, bq 100 x.c) : zv Tryz.prog G 186 [Zl s, .str c] (.tup 2 (zw [Zl (Zq (zP c) s), .i 0])) :=
 zW (T := (Xz G).plus 18 XB) (an := H4 s (zP c)) mixed (zz.plus zr (wJ hG)) (Eq.mp (by kernel_rfl) (iv G s c hl hc hs))
theorem Jm {G : List (Nat × Obj)} (hG : zO G) : zQ Tryz.prog G 186 o8 := by
 intro xs ps r h hp
 unfold o8 at h
 split at h
 ·skip
  rename_i x_s c
  cases h
  obtain ⟨q0, q1, q2, q3, -⟩ := ZT hp
  exact weaken (ys := [Zl (Zn (α := Tm) x_s), .str c]) ⟨zI q0, zV _, trivial⟩ (Gw hG (Zn (α := Tm) x_s) c q1 q2 q3)
 ·cases h
noncomputable def H9 (G : List (Nat × Obj)) : Tb := ((Tb.own1 ((((Xz G).plus 69 su).plus 158 qa).plus 186 o8) 215 Oy).body Tryz.prog [(167, .auto), (168, IP)])
theorem tT {G : List (Nat × Obj)} (hG : zO G) : zz Tryz.prog (H9 G) := zz.body mixed (zz.own1 (zz.plus (zz.plus (zz.plus zr (OU hG)) (l7 hG)) (Jm hG)) (NA G)) _
def pK : List AV → Option (List zN × AV)
 | [x_s, x_t] => some ([.b (ze Tm x_s), .b (ze Tm x_t), .p (wL (Zn (α := Tm) x_s)), .p (wL (Zn (α := Tm) x_t)), .p (uM ((Zn (α := Tm) x_s) ++ (Zn (α := Tm) x_t)))], .tup 2 (zw [Zl (YA ((Zn (α := Tm) x_s) ++ (Zn (α := Tm) x_t))), .i 0]))
 | _ => none
theorem KW (G : List (Nat × Obj)) (s : List Tm) (t : List Tm) (hs : wL s) (ht : wL t) (hm : uM (s ++ t)) :
 let q1 := (AV.xl false 2 (lN s) fun i j => zR.enc (gD s i zR.dflt) j); let q2 := (AV.xl false 2 (lN t) fun i j => zR.enc (gD t i zR.dflt) j); let q3 := (AV.xl false 2 (0 + lN s + lN t) fun i j => if 0 + i < 0 + lN s then if 0 + i < 0 then AV.junk else zR.enc (gD s (0 + i - 0) zR.dflt) j else zR.enc (gD t (0 + i - (0 + lN s)) zR.dflt) j); let q4 := (Zn q3); let q5 := (YA q4); zB [AV.xl false 2 (lN s) fun i j => zR.enc (gD s i zR.dflt) j, AV.xl false 2 (lN t) fun i j => zR.enc
 (gD t i zR.dflt) j] → bF (ze Tm q1) (wL (Zn q1) ∧ bF (!zS true (iZ == iZ) || ze Tm q2) ((zS true (iZ == iZ) = true → wL (Zn q2)) ∧ bF (dK (iZ + (lZ s))) (bF (dK (iZ + (lZ s) + (lZ t))) ((iZ ≤ iZ + (lZ s) + (lZ t) ∧ iZ + (lZ s) + (lZ t) ≤ (100000 : Int)) ∧ bF (DB.db ((0 + lN s) * 32 ≤ 140737488355328)) (bF (DB.db ((0 + List.length
 s + lN t) * 32 ≤ 140737488355328)) (bF (ze Tm q3) (uM q4 ∧ j2 ∧ (True ∧ zi (AV.xl false 2 (lN q5) fun i j => zR.enc (gD q5 i zR.dflt) j) (AV.xl false 2 (lN (YA (s ++ t))) fun i j => zR.enc (gD (YA (s ++ t)) i zR.dflt) j)) ∧ kI ∧ iZ = iZ))))))) := by
 delta bF dK kI j2 lZ lN gD iZ
 dsimp only
 intro hb
 simp only [↓Zf, ↓Zu, row_one]
 simp only [sS, Z2, ZL, zn, ZQ, xi, YU, yx, Yn, yp, YH, ym, UF, LA, dS]
 have l1 := hs.len
 have l2 := ht.len
 exact ⟨hs, fun _ => ht, by simp only [ZB]; omega, by simp only [ZB]; omega, ⟨by omega, by omega⟩, by omega, by omega, hm, rfl⟩
theorem Hf {G : List (Nat × Obj)} (hG : zO G) (s : List Tm) (t : List Tm) (hs : wL s) (ht : wL t) (hm : uM (s ++ t)) : zv Tryz.prog G 110 [Zl s, Zl t] (.tup 2 (zw [Zl (YA (s ++ t)), .i 0])) :=
 zW (T := H9 G) (an := .auto) mixed (tT hG) (Eq.mp (by kernel_rfl) (KW G s t hs ht hm))
theorem Iz {G : List (Nat × Obj)} (hG : zO G) : zQ Tryz.prog G 110 pK := by
 intro xs ps r h hp
 unfold pK at h
 split at h
 ·skip
  rename_i x_s x_t
  cases h
  obtain ⟨q0, q1, q2, q3, q4, -⟩ := ZT hp
  exact weaken (ys := [Zl (Zn (α := Tm) x_s), Zl (Zn (α := Tm) x_t)]) ⟨zI q0, zI q1, trivial⟩ (Hf hG (Zn (α := Tm) x_s) (Zn (α := Tm) x_t) q2 q3 q4)
 ·cases h
def Q7 : List AV → Option (List zN × AV)
 | [x_s, x_t] => some ([.b (ze Tm x_s), .b (ze Tm x_t), .p (wL (Zn (α := Tm) x_s)), .p (wL (Zn (α := Tm) x_t)), .p (uM ((Zn (α := Tm) x_s) ++ Zq (-1) (Zn (α := Tm) x_t)))], .tup 2 (zw [Zl (YA ((Zn (α := Tm) x_s) ++ Zq (-1) (Zn (α := Tm) x_t))), .i 0]))
 | _ => none
theorem je (G : List (Nat × Obj)) (s : List Tm) (t : List Tm) (hs : wL s) (ht : wL t) (hm : uM (s ++ Zq (-1) t)) :
 let q1 := (AV.xl false 2 (lN s) fun i j => zR.enc (gD s i zR.dflt) j); let q2 := (AV.xl false 2 (lN t) fun i j => zR.enc (gD t i zR.dflt) j); let q3 := (Zn q2); let q4 := (bA #[(45 : UInt8), (49 : UInt8)]); let q6 := (Zq (zP q4) q3); let q5 := (lZ q6); let q7 := (0 + lN s + lN q6); let q8 := (AV.xl false 2 q7 fun i j => if 0 + i < 0 + lN s then if 0 + i < 0 then AV.junk else zR.enc (gD s (0 + i - 0) zR.dflt) j else zR.enc (gD q6 (0 + i - (0 +
 lN s)) zR.dflt) j); let q9 := (Zn q8); let q10 := (YA q9); zB [AV.xl false 2 (lN s) fun i j => zR.enc (gD s i zR.dflt) j, AV.xl false 2 (lN t) fun i j => zR.enc (gD t i zR.dflt) j] → bF (ze Tm q1) (wL (Zn q1) ∧ bF (!zS true (iZ == iZ) || ze Tm q2) ((zS true (iZ == iZ) = true → wL q3) ∧ bF (ze Tm q2) (lN q3 ≤ 1000 ∧ yX 10 q4 ∧ (∀ (x : Tm), List.Mem x q3 → bq 100 (Tm.c x)) ∧ bF (dK (iZ + (lZ s))) (bF (dK (iZ +
 (lZ s) + q5)) ((iZ ≤ iZ + (lZ s) + q5 ∧ iZ + (lZ s) + q5 ≤ (100000 : Int)) ∧ bF (DB.db ((0 + lN s) * 32 ≤ 140737488355328)) (bF (DB.db (q7 * 32 ≤ 140737488355328)) (zZ (ze Tm q8) (uM q9 ∧ j2 ∧ (True ∧ zi (AV.xl false 2 (lN q10) fun i j => zR.enc (gD q10 i zR.dflt) j) (AV.xl false 2 (lN (YA (s ++ Zq (-1 : Rat) t))) fun i j => zR.enc (gD (YA (s ++ Zq (-1 : Rat) t)) i zR.dflt) j)) ∧ kI ∧ iZ = iZ)
 False))))))) := by
 delta bF dK bA kI j2 lZ lN gD iZ
 dsimp only
 intro hb
 simp only [↓Zf, ↓Zu, row_one]
 simp only [sS, Z2, ZL, zn, ZQ, xi, YU, yx, Yn, yp, YH, ym, UF, LA, dS]
 have l1 := hs.len
 have l2 := ht.len
 have l3 : (Zq (-1) t).length = t.length := by unfold Zq; rw [List.length_map]
 refine ⟨hs, fun _ => ht, by omega, ⟨by decide +kernel, ⟨by decide +kernel, by decide +kernel⟩⟩, fun x hx => (ht.bc x hx).mono (by decide), by simp only [ZB]; omega, by simp only [ZB]; omega, ⟨by omega, by omega⟩, by omega, by omega, hm, rfl⟩
theorem MF {G : List (Nat × Obj)} (hG : zO G) (s : List Tm) (t : List Tm) (hs : wL s) (ht : wL t) (hm : uM (s ++ Zq (-1) t)) : zv Tryz.prog G 124 [Zl s, Zl t] (.tup 2 (zw [Zl (YA (s ++ Zq (-1) t)), .i 0])) :=
 zW (T := H9 G) (an := .auto) mixed (tT hG) (Eq.mp (by kernel_rfl) (je G s t hs ht hm))
theorem iW {G : List (Nat × Obj)} (hG : zO G) : zQ Tryz.prog G 124 Q7 := by
 intro xs ps r h hp
 unfold Q7 at h
 split at h
 ·skip
  rename_i x_s x_t
  cases h
  obtain ⟨q0, q1, q2, q3, q4, -⟩ := ZT hp
  exact weaken (ys := [Zl (Zn (α := Tm) x_s), Zl (Zn (α := Tm) x_t)]) ⟨zI q0, zI q1, trivial⟩ (MF hG (Zn (α := Tm) x_s) (Zn (α := Tm) x_t) q2 q3 q4)
 ·cases h
structure GA (s t : List Tm) : Prop where
 fs : wL s
 ft : wL t
 made : uM (s ++ Zq (-1) t)
 no : YA (s ++ Zq (-1) t) = []
def Po : List AV → Option (List zN × AV)
 | [x, y] => some ([.b (ze Tm x), .b (ze Tm y), .p (GA (Zn x) (Zn y))], .tup 2 (zw [Zl ([] : List Tm), .i 0]))
 | _ => none
theorem il {G : List (Nat × Obj)} (hG : zO G) : zQ Tryz.prog G 124 Po := by
 intro xs ps r h hp
 unfold Po at h
 split at h
 ·rename_i x y
  cases h
  obtain ⟨q0, q1, -⟩ := ZT hp
  have q2 : GA (Zn x) (Zn y) := hp _ (List.mem_cons_of_mem _ (List.mem_cons_of_mem _ List.mem_cons_self))
  have := MF hG (Zn x) (Zn y) q2.1 q2.2 q2.3
  rw [q2.4] at this
  exact weaken (ys := [_, _]) ⟨zI q0, zI q1, trivial⟩ this
 ·cases h
theorem kp (G : List (Nat × Obj)) (s : List Tm) (t : List Tm) (h : GA s t) :
 let q1 := (AV.xl false 2 (lN s) fun i j => zR.enc (gD s i zR.dflt) j); let q2 := (AV.xl false 2 (lN t) fun i j => zR.enc (gD t i zR.dflt) j); zB [AV.xl false 2 (lN s) fun i j => zR.enc (gD s i zR.dflt) j, AV.xl false 2 (lN t) fun i j => zR.enc (gD t i zR.dflt) j] → bF (ze Tm q1) (bF (ze Tm q2) (GA (Zn q1) (Zn q2) ∧ j2 ∧ (True ∧ kI ∧ iZ = iZ) ∧ kI ∧ iZ = iZ)) := by
 delta bF kI j2 lN gD iZ
 dsimp only
 intro hb
 simp only [↓Zf, ↓Zu, row_one]
 simp only [sS, Z2, ZL, zn, ZQ, xi, YU, yx, Yn, yp, YH, ym, UF, LA, dS]
 exact ⟨h, rfl⟩
theorem hJ {G : List (Nat × Obj)} (hG : zO G) (s : List Tm) (t : List Tm) (h : GA s t) : zv Tryz.prog G 70 [Zl s, Zl t] (.tup 2 (zw [.i 0, .i 0])) :=
 zW (T := ((Xz G).plus 124 Po).body Tryz.prog [(125, .auto)]) (an := .auto) mixed (zz.body mixed (zz.plus zr (il hG)) _) (Eq.mp (by kernel_rfl) (kp G s t h))
end Go.Te

namespace Go.Proofs
open Go.Shelf
def Tryz.lays105_ren : Go.Shelf.Ren := ⟨fun | 105 => 89 | 212 => 141 | 99 => 102 | 165 => 142 | 166 => 143 | 170 => 144 | 169 => 145 | 263 => 199 | 264 => 200 | 206 => 162 | 240 => 201 | 241 => 202 | 276 => 238 | 277 => 239 | n => n, fun | 9 => 9 | 3 => 3 | 4 => 4 | 20 => 20 | 0 => 0 | 46 => 168 | 109 => 169 | 5 => 5 | 72 => 174 | 76 => 159 | 51 => 214 | 146 => 215 | 53 => 217 | 148 => 218 | 70 => 171 | 37 => 172 | 75 => 158 | 127 => 220 | 164 => 255 | 80 => 177 | n => n, fun | n => n⟩
theorem Tryz.lays105 : Go.Proofs.Lays.n105 Tryz.prog Tryz.lays105_ren := {
 mixed := by kernel_rfl
 f99 := Tryz.func102.trans (congrArg some (by kernel_rfl))
 f105 := Tryz.func89.trans (congrArg some (by kernel_rfl))
 f165 := Tryz.func142.trans (congrArg some (by kernel_rfl))
 f166 := Tryz.func143.trans (congrArg some (by kernel_rfl))
 f169 := Tryz.func145.trans (congrArg some (by kernel_rfl))
 f170 := Tryz.func144.trans (congrArg some (by kernel_rfl))
 f206 := Tryz.func162.trans (congrArg some (by kernel_rfl))
 f212 := Tryz.func141.trans (congrArg some (by kernel_rfl))
 f240 := Tryz.func201.trans (congrArg some (by kernel_rfl))
 f241 := Tryz.func202.trans (congrArg some (by kernel_rfl))
 f263 := Tryz.func199.trans (congrArg some (by kernel_rfl))
 f264 := Tryz.func200.trans (congrArg some (by kernel_rfl))
 f276 := Tryz.func238.trans (congrArg some (by kernel_rfl))
 f277 := Tryz.func239.trans (congrArg some (by kernel_rfl))
 t0 := Tryz.underlying0
 a0 := Tryz.isAgg0
 z0 := Tryz.sizeOf0
 v0 := Tryz.zeroValue0
 t3 := Tryz.underlying3
 a3 := Tryz.isAgg3
 z3 := Tryz.sizeOf3
 v3 := Tryz.zeroValue3
 t4 := Tryz.underlying4
 a4 := Tryz.isAgg4
 z4 := Tryz.sizeOf4
 v4 := Tryz.zeroValue4
 t5 := Tryz.underlying5
 a5 := Tryz.isAgg5
 z5 := Tryz.sizeOf5
 v5 := Tryz.zeroValue5
 t9 := Tryz.underlying9
 a9 := Tryz.isAgg9
 z9 := Tryz.sizeOf9
 v9 := Tryz.zeroValue9
 t20 := Tryz.underlying20
 a20 := Tryz.isAgg20
 z20 := Tryz.sizeOf20
 v20 := Tryz.zeroValue20
 t37 := Tryz.underlying172
 a37 := Tryz.isAgg172
 z37 := Tryz.sizeOf172
 v37 := Tryz.zeroValue172
 t46 := Tryz.underlying168
 a46 := Tryz.isAgg168
 z46 := Tryz.sizeOf168
 v46 := Tryz.zeroValue168
 t51 := Tryz.underlying214
 a51 := Tryz.isAgg214
 z51 := Tryz.sizeOf214
 v51 := Tryz.zeroValue214
 t53 := Tryz.underlying217
 a53 := Tryz.isAgg217
 z53 := Tryz.sizeOf217
 v53 := Tryz.zeroValue217
 t70 := Tryz.underlying171
 a70 := Tryz.isAgg171
 z70 := Tryz.sizeOf171
 v70 := Tryz.zeroValue171
 t72 := Tryz.underlying174
 a72 := Tryz.isAgg174
 z72 := Tryz.sizeOf174
 v72 := Tryz.zeroValue174
 t75 := Tryz.underlying158
 a75 := Tryz.isAgg158
 z75 := Tryz.sizeOf158
 v75 := Tryz.zeroValue158
 t76 := Tryz.underlying159
 a76 := Tryz.isAgg159
 z76 := Tryz.sizeOf159
 v76 := Tryz.zeroValue159
 t109 := Tryz.underlying169
 a109 := Tryz.isAgg169
 z109 := Tryz.sizeOf169
 v109 := Tryz.zeroValue169
 t127 := Tryz.underlying220
 a127 := Tryz.isAgg220
 z127 := Tryz.sizeOf220
 v127 := Tryz.zeroValue220
 t146 := Tryz.underlying215
 a146 := Tryz.isAgg215
 z146 := Tryz.sizeOf215
 v146 := Tryz.zeroValue215
 t148 := Tryz.underlying218
 a148 := Tryz.isAgg218
 z148 := Tryz.sizeOf218
 v148 := Tryz.zeroValue218
 t164 := Tryz.underlying255
 a164 := Tryz.isAgg255
 z164 := Tryz.sizeOf255
 v164 := Tryz.zeroValue255 }
theorem Tryz.Builder_Extra_105 : Builder.Extra Tryz.prog Tryz.lays105_ren := {
 sizeBuilder := by kernel_rfl
 liesBuilder := by kernel_rfl
 t5 := Tryz.underlying5
 a5 := Tryz.isAgg5
 z5 := Tryz.sizeOf5
 v5 := Tryz.zeroValue5
 infoByte := by kernel_rfl
 cellsByte := by kernel_rfl
 sizeByte := by kernel_rfl
 neB5 := by decide }
end Go.Proofs

namespace Go.Te
open Go Go.Sx Go.Proofs Go.Ar
set_option maxRecDepth 100000
set_option maxHeartbeats 4000000
theorem F2 (n : Nat) : Lib.repeatL [48] n = List.replicate n (48 : UInt8) := by
 have := Lib.repeatL_replicate 48 1 n
 rwa [Nat.mul_one] at this
def tH : List AV → Option (List zN × AV)
 | [.str s, .v (.int .i64 k)] => some ([.b (s == [48]), .p (0 ≤ k ∧ k ≤ 1000000)], .str (List.replicate k.toNat 48))
 | _ => none
theorem Pn : zQ Tryz.prog [] 89 tH := by
 intro xs ps r h hp
 unfold tH at h
 split at h
 ·rename_i s k
  cases h
  have q : (s == [48]) = true := hp _ List.mem_cons_self
  have q1 : 0 ≤ k ∧ k ≤ 1000000 := hp _ (List.mem_cons_of_mem _ List.mem_cons_self)
  obtain rfl := eq_of_beq q
  obtain ⟨n, rfl⟩ : ∃ n : Nat, k = n := ⟨k.toNat, by omega⟩
  refine ⟨enters_of Tryz.func89 (by kernel_rfl) rfl, fun w S vals hS hg hr => ?_⟩
  match vals, hr with
  | [v, v2], ⟨hv, hv2, _⟩ =>
  obtain rfl := Z8 hv
  obtain rfl := ZS hv2
  have hsz : (⟨[48].toArray⟩ : ByteArray).size = 1 := rfl
  refine (Calls.drawn (fun e w' h => ⟨_, h.1⟩) (Any.strings_Repeat Tryz.lays105 Tryz.Builder_Extra_105 ⟨[48].toArray⟩ n w (by omega) (by show 1 * n ≤ 140737488355328; omega))).mono ?_
  rintro e w' ⟨⟨rfl, hb⟩, hd⟩
  rw [F2]
  exact ⟨⟨hb, Jg hd⟩, _, rfl, .str _⟩
 ·cases h
end Go.Te

namespace Go.Te
open Go Go.Sx Go.Proofs Go.Ar Go.Lib
set_option maxRecDepth 100000
set_option maxHeartbeats 4000000
def I2 (n : Nat) : yV :=
 .two .auto (.two .auto (.two .auto (.two .auto (.two (.one (.loop Nat (fun σ z => [(4, σ.tm 4), (6, .i (z : Int))]) (fun σ z => []) 0 (fun σ z => 0 < z ∧ z ≤ 2000000000) (fun σ z => 4000000000 - z) .auto)) (.one (.loop Nat (fun σ z => [(4, σ.tm 4), (6, .i (z : Int))]) (fun σ z => []) 0 (fun σ z => 0 < z ∧ z ≤ 2000000000 ∧ n < (z + 1) * (z + 1)) (fun σ z => z) .auto))))))
def PX : List AV → Option (List zN × AV)
 | [.str a] => some ([.p (Zy a = true), .p (0 < zX a), .p (a.length ≤ 18)], .tup 2 (zw [.str (Lib.itoa (Z7 (zX a).toNat)), .i 0]))
 | _ => none
theorem jO (G : List (Nat × Obj)) (a : List UInt8) (hi : Zy a = true) (h0 : 0 < zX a) (hl : a.length ≤ 18) :
 zB [AV.str a] → bF (Zy a) (lN a ≤ 18 ∧ (∃ (z : Nat), ((0 < z ∧ z ≤ 2000000000) ∧ (kI ∧ zX a = zX a) ∧ kI ∧ iO = (cI z)) ∧ True) ∧ ∀ (z : Nat), 0 < z ∧ z ≤ 2000000000 → bF (DB.db ((cI z) ≠ iZ)) (bF (dK (Int.tdiv (zX a) (cI z))) (zZ (zM (cI z) (Int.tdiv (zX a) (cI z))) (bF (dK ((cI z) * (2 : Int))) (∃ (z' : Nat), (((0 < z' ∧ z' ≤ 2000000000) ∧ 4000000000 - z' < 4000000000 - z) ∧ (kI ∧ zX a = zX a) ∧ kI ∧ (cI z) * (2 :
 Int) = (cI z')) ∧ True)) ((∃ (z_1 : Nat), ((0 < z_1 ∧ z_1 ≤ 2000000000 ∧ Int.toNat (zX a) < (z_1 + 1) * (z_1 + 1)) ∧ (kI ∧ zX a = zX a) ∧ kI ∧ (cI z) = (cI z_1)) ∧ True) ∧ ∀ (z : Nat), 0 < z ∧ z ≤ 2000000000 ∧ Int.toNat (zX a) < (z + 1) * (z + 1) → bF (DB.db ((cI z) ≠ iZ)) (bF (dK (Int.tdiv (zX a) (cI z))) (bF (dK ((cI z) + Int.tdiv (zX a) (cI z))) (bF (dK (Int.tdiv ((cI z) + Int.tdiv (zX a) (cI z)) (2 : Int))) (zZ (leB (cI z) (Int.tdiv
 ((cI z) + Int.tdiv (zX a) (cI z)) (2 : Int))) ((iN ≤ (cI z) ∧ (cI z) ≤ iX) ∧ j2 ∧ (True ∧ itoa (cI z) = itoa (cI (Z7 (Int.toNat (zX a))))) ∧ kI ∧ iZ = iZ) (∃ (z' : Nat), (((0 < z' ∧ z' ≤ 2000000000 ∧ Int.toNat (zX a) < (z' + 1) * (z' + 1)) ∧ z' < z) ∧ (kI ∧ zX a = zX a) ∧ kI ∧ Int.tdiv ((cI z) + Int.tdiv (zX a) (cI z)) (2 : Int) = (cI z')) ∧ True))))))))) := by
 delta bF dK cI kI j2 lN iZ iO iX iN
 intro hb
 simp only [↓Zf, ↓Zu, row_one]
 simp only [sS, dS]
 obtain ⟨n, hn⟩ : ∃ n : Nat, zX a = n := ⟨(zX a).toNat, by omega⟩
 have hb2 : (zX a).natAbs < 10 ^ 18 := Nat.lt_of_lt_of_le (na hi) (Nat.pow_le_pow_right (by omega) hl)
 rw [show 10 ^ 18 = 1000000000000000000 from by decide] at hb2
 rw [hn] at hb2 h0 ⊢
 rw [Int.natAbs_natCast] at hb2
 rw [Int.toNat_natCast, hi]
 have hn0 : 0 < n := by omega
 have ed : ∀ z : Nat, (n : Int).tdiv (z : Int) = ((n / z : Nat) : Int) := fun z => by rw [Int.tdiv_eq_ediv_of_nonneg (by omega), Int.natCast_ediv]
 refine zY.2 ⟨fun _ => ⟨hl, ⟨1, by omega, rfl⟩, fun z ⟨z1, z2⟩ => ?_⟩, fun c => (by cases c)⟩
 have q1 : n / z ≤ n := Nat.div_le_self _ _
 have q2 := Nat.div_mul_le_self n z
 have q3 := Nat.lt_div_mul_add (a := n) z1
 rw [ed]
 generalize n / z = q at *
 refine ⟨by omega, by simp only [ZB]; omega, fun hlt => ?_, fun hge => ⟨⟨z, ⟨z1, z2, ?_⟩, rfl⟩, fun y ⟨y1, y2, y3⟩ => ?_⟩⟩
 ·have hz9 : z * z < 1000000000 * 1000000000 := by
   have : z * z ≤ q * z := Nat.mul_le_mul_right _ (by omega)
   omega
  have := X7 hz9
  exact ⟨by simp only [ZB]; omega, z * 2, ⟨⟨by omega, by omega⟩, by omega⟩, by omega⟩
 ·have : q * z ≤ z * z := Nat.mul_le_mul_right _ (by omega)
  have e : (z + 1) * (z + 1) = z * z + 2 * z + 1 := by grind
  omega
 ·obtain ⟨g1, g2⟩ := JI y1 y3 hn0
  have r1 : n / y ≤ n := Nat.div_le_self _ _
  rw [ed]
  generalize n / y = r at *
  have e2 : ((y : Int) + (r : Int)).tdiv 2 = (((y + r) / 2 : Nat) : Int) := by rw [Int.tdiv_eq_ediv_of_nonneg (by omega)]; omega
  rw [e2]
  refine ⟨by omega, by simp only [ZB]; omega, by simp only [ZB]; omega, by simp only [ZB]; omega, fun h => ⟨⟨by omega, by omega⟩, rfl, by rw [← g1 (by omega)]⟩, fun h => ⟨(y + r) / 2, ⟨⟨(g2 (by omega)).1, by omega, (g2 (by omega)).2⟩, by omega⟩, rfl⟩⟩
theorem IQ {G : List (Nat × Obj)} (hG : zO G) (a : List UInt8) (hi : Zy a = true) (h0 : 0 < zX a) (hl : a.length ≤ 18) : zv Tryz.prog G 204 [.str a] (.tup 2 (zw [.str (Lib.itoa (Z7 (zX a).toNat)), .i 0])) :=
 zW (T := (LC G).plus 134 uK) (an := I2 (zX a).toNat) mixed (zz.plus (YK hG) (zQ.mono RS)) (Eq.mp (by kernel_rfl) (jO G a hi h0 hl))
theorem HC {G : List (Nat × Obj)} (hG : zO G) : zQ Tryz.prog G 204 PX := by
 intro xs ps r h hp
 unfold PX at h
 split at h
 ·skip
  rename_i a
  cases h
  obtain ⟨q0, q1, q2, -⟩ := ZT hp
  exact weaken (ys := [.str a]) ⟨zV _, trivial⟩ (IQ hG a q0 q1 q2)
 ·cases h
noncomputable def Ge (G : List (Nat × Obj)) : Tb := (((((((Xz G).plus 133 Vl).plus 87 US).plus 89 tH).plus 132 Uq).plus 137 Ul).plus 139 UA).plus 100 vZ |>.plus 204 PX
theorem pG {G : List (Nat × Obj)} (hG : zO G) : zz Tryz.prog (Ge G) := zz.plus (zz.plus (zz.plus (zz.plus (zz.plus (zz.plus (zz.plus (zz.plus zr (zQ.mono qo)) (zQ.mono om)) (zQ.mono Pn)) (zQ.mono oF)) (zQ.mono Pe)) (zQ.mono po)) (ss hG)) (HC hG)
def Ht (n : Nat) : yV :=
 .two .auto (.two .auto (.two .auto (.two .auto (.two .auto (.two .auto (.two .auto (.one (.loop Nat (fun σ z => [(5, σ.tm 5), (6, Zl (zT 1000000000 z))]) (fun σ z => []) 0 (fun σ z => 0 < z ∧ n < (z + 1) * (z + 1) ∧ z ≤ 10 ^ 108) (fun σ z => z) .auto))))))))
def oz : List AV → Option (List zN × AV)
 | [.str a] => some ([.p (Zy a = true), .p (0 ≤ zX a), .p (a.length ≤ 216)], .tup 2 (zw [.str (Lib.itoa (Z7 (zX a).toNat)), .i 0]))
 | _ => none
theorem JA (G : List (Nat × Obj)) (a : List UInt8) (hi : Zy a = true) (h0 : 0 ≤ zX a) (hl : a.length ≤ 216) :
 let q1 := (True ∧ bA #[] = itoa (cI (Z7 (Int.toNat (zX a))))); let q2 := (Int.tdiv ((lZ a) + iO) (2 : Int)); let q3 := (Int.toNat q2); let q4 := (bA #[(49 : UInt8)] ++ List.replicate q3 (48 : UInt8)); let q6 := (zT 1000000000 (Int.natAbs (zX a))); let q5 := (xI q6); let q7 := (zT 1000000000 (Int.natAbs (zX q4))); let q10 := (zU q5); let q20 := (AV.xl true 1 1 (Sx.rowAt [fun (x : Nat)
 => aI (2 : Int)])); let q19 := (zU q20); zB [AV.str a] → lN a ≤ nM ∧ zZ (ZU a != iZ) (j2 ∧ q1 ∧ kI ∧ ZU a = iZ) (bF (DB.db (iZ ≤ iZ ∧ iZ < (lZ a))) (zZ ((cI (UInt8.toNat (gD a 0 (0 : UInt8)))) == (45 : Int)) (j2 ∧ q1 ∧ kI ∧ (2 : Int) = iZ) (zZ (a == bA #[(48 : UInt8)]) (j2 ∧ (True ∧ a = itoa
 (cI (Z7 (Int.toNat (zX a))))) ∧ kI ∧ iZ = iZ) (Zy a = true ∧ lN a ≤ 100000000 ∧ zZ (leB (lZ a) (18 : Int)) (Zy a = true ∧ iZ < zX a ∧ lN a ≤ 18 ∧ j2 ∧ (True ∧ itoa (cI (Z7 (Int.toNat (zX a)))) = itoa (cI (Z7 (Int.toNat (zX a))))) ∧ kI ∧ iZ = iZ) (bF (dK ((lZ a) + iO)) (zZ (dK q2) ((iZ ≤ Int.tdiv ((lZ a) + iO) (2 : Int) ∧ Int.tdiv
 ((lZ a) + iO) (2 : Int) ≤ (1000000 : Int)) ∧ bF (DB.db (1 + lN (List.replicate q3 (48 : UInt8)) ≤ nX)) (Zy q4 = true ∧ lN q4 ≤ 100000000 ∧ (∃ (z : Nat), ((0 < z ∧ Int.toNat (zX a) < (z + 1) * (z + 1) ∧ z ≤ 1000000000000000000000000000000000000000000000000000000000000000000000000000000000000000000000000000000000000) ∧ zi q5 q5 ∧ (false = true → false = true) ∧ 1 = 1 ∧ lN (zT 1000000000 z) = lN q7 ∧ ∀ (i j : Nat), i < lN q7 → j < 1 → kI ∧ gD q7 i zR.dflt = gD (zT
 1000000000 z) i zR.dflt) ∧ True) ∧ ∀ (z : Nat), let q9 := (xI (zT 1000000000 z)); let q8 := (ze Int q9); let q12 := (zU q9); let q11 := (∀ (x : Int), List.Mem x q12 → iZ ≤ x ∧ x < iB); let q14 := (zT 1000000000 (Int.toNat (zt iB q10) / Int.toNat (zt iB q12))); let q13 := (xI q14); let q15 := (zU q13); let q17 := (zT 1000000000
 (Int.toNat (zt iB q12 + zt iB q15))); let q16 := (xI q17); let q18 := (zU q16); let q23 := (zt iB q18); let q22 := (zT 1000000000 (Int.toNat q23 / Int.toNat (zt iB q19))); let q21 := (xI q22); let q25 := (AV.agg 2 (zw [AV.v (Array.getD (Value.cells (Value.agg #[Value.bool false, Value.slice (Xd Addr) 0 0])) 0 undef), AV.xl false 1 (List.length
 (zT 1000000000 z)) fun i j => aI (gD (zT 1000000000 z) i zR.dflt)])); let q27 := (yR q25); let q26 := (Big.l q27); let q28 := (YY (Big.neg q27) q26); 0 < z ∧ Int.toNat (zX a) < (z + 1) * (z + 1) ∧ z ≤ 1000000000000000000000000000000000000000000000000000000000000000000000000000000000000000000000000000000000000 → bF (ze Int q5) (bF q8 ((∀ (x : Int), List.Mem x q10 → iZ ≤ x ∧ x < iB) ∧ q11 ∧ zf q10 = zU q5 ∧ zf q12 = zU q9 ∧ lN q12 ≠ 0 ∧ lN q10 ≤ 100000000 ∧ lN q12 ≤ 100000000 ∧ zZ
 q8 (bF (ze Int q13) (q11 ∧ (∀ (x : Int), List.Mem x q15 → iZ ≤ x ∧ x < iB) ∧ lN q12 ≤ 1000000000 ∧ lN q15 ≤ 1000000000 ∧ bF (ze Int q16) ((∀ (x : Int), List.Mem x q18 → iZ ≤ x ∧ x < iB) ∧ (∀ (x : Int), List.Mem x (zU (AV.xl true 1 1 (Sx.rowAt [fun (x : Nat) => aI (2 : Int)]))) → iZ ≤ x ∧ x < iB) ∧ zf q18 = zU q16 ∧ zf q19 = zU q20 ∧ lN q19 ≠ 0 ∧ lN q18 ≤ 100000000 ∧ lN q19 ≤ 100000000 ∧ bF (ze Int q21) (bF q8 ((∀ (x : Int),
 let q24 := (zT 1000000000 (Int.toNat q23 / Int.toNat (zt iB (zU (AV.xl true 1 1 (Sx.rowAt [fun (x : Nat) => aI (2 : Int)])))))); List.Mem x (zU (xI q24)) → iZ ≤ x ∧ x < iB) ∧ q11 ∧ zZ (leB iZ (Ar.cmpL (zU q21) q12)) (bF (yo Big q25) ((∀ (x : Int), List.Mem x q26 → iZ ≤ x ∧ x < iB) ∧ zf q26 = Big.l q27 ∧ lN q26 ≤ 100000000 ∧ j2 ∧ (True ∧ Yg q28 = itoa
 (cI (Z7 (Int.toNat (zX a))))) ∧ kI ∧ ZN q28 = iZ)) (∃ (z' : Nat), (((0 < z' ∧ Int.toNat (zX a) < (z' + 1) * (z' + 1) ∧ z' ≤ 1000000000000000000000000000000000000000000000000000000000000000000000000000000000000000000000000000000000000) ∧ z' < z) ∧ zi q5 q5 ∧ (false = true → false = true) ∧ 1 = 1 ∧ lN (zT 1000000000 z') = lN q22 ∧ ∀ (i j : Nat), i < lN q22 → j < 1 → kI ∧ gD q22 i zR.dflt = gD (zT 1000000000 z') i zR.dflt) ∧ True)))))) False))))
 False)))))) := by
 delta bF dK bA xI nX nM cI kI j2 lZ lN gD iZ iO iB aI
 dsimp only
 intro hb
 have e0 : (zR.dflt : Int) = 0 := rfl
 simp only [↓Zf, ↓Zu, row_one]
 by_cases hz : a = [48]
 ·have z0 : ZU [48] = 0 := by decide +kernel
  have z1 : Lib.itoa (Z7 (zX [48]).toNat : Int) = [48] := by decide +kernel
  have z2 : (([48] : zj).getD 0 0).toNat = 48 := rfl
  have z3 : ([48] : zj).length = 1 := rfl
  subst hz
  simp only [sS, dS, e0, z0, z1, z2, z3, beq_self_eq_true]
  refine ⟨by decide, fun h => absurd rfl h, fun _ => ⟨⟨by decide, by decide⟩, fun h => absurd h (by decide), fun _ => rfl⟩⟩
 replace h0 : 0 < zX a := by
  refine Int.lt_iff_le_and_ne.2 ⟨h0, fun e => hz ?_⟩
  rw [← Yt hi, ← e]; decide +kernel
 have hE : ZU a = 0 := yq.2 ⟨hi, by have := (wK a).1; omega⟩
 obtain ⟨n, hn⟩ : ∃ n : Nat, zX a = n := ⟨(zX a).toNat, by omega⟩
 have hb2 : (zX a).natAbs < 10 ^ a.length := na hi
 rw [hn, Int.natAbs_natCast] at hb2
 have h48 : (a == [48]) = false := beq_eq_false_iff_ne.2 fun e => by
  rw [e] at h0
  exact absurd h0 (by decide)
 have h45 : ((a.getD 0 0).toNat : Int) ≠ 45 := fun e => by
  rcases yd hi with ⟨r, rfl, _, _, g3⟩ | ⟨g1, g3⟩
  ·rw [g3] at h0; omega
  ·have hm : zJ a = false := by
    cases hm : zJ a with
    | false => rfl
    | true =>
     match a, hm, g1 with
     | c :: r, hm, g1 =>
      have hc : c = 45 := eq_of_beq hm
      subst hc
      exact (wE g1).elim
   match a, g1, e, hm with
   | c :: r, g1, e, hm =>
    have e : (c.toNat : Int) = 45 := e
    have : c = 45 := UInt8.toNat.inj (by show c.toNat = 45; omega)
    rw [this] at hm
    cases hm
 have hl0 : 0 < a.length := Nat.pos_of_ne_zero fun e => by rw [List.eq_nil_of_length_eq_zero e] at hi; cases hi
 simp only [sS, dS, e0, Xi, xr, Xy, xY, wC, Xl, wM, Xk, X6, kz, xD, Kz, MU, QO]
 have ek : ((a.length : Int) + 1).tdiv 2 = (((a.length + 1) / 2 : Nat) : Int) := by rw [Int.tdiv_eq_ediv_of_nonneg (by omega)]; omega
 have hk : 10 ^ a.length ≤ 10 ^ ((a.length + 1) / 2) * 10 ^ ((a.length + 1) / 2) := by
  rw [← Nat.pow_add]
  exact Nat.pow_le_pow_right (by omega) (by omega)
 have hk2 : 10 ^ ((a.length + 1) / 2) ≤ 10 ^ 108 := Nat.pow_le_pow_right (by omega) (by omega)
 have hk3 : 0 < 10 ^ ((a.length + 1) / 2) := Nat.pow_pos (by omega)
 have hl2 := Ws (n := n) (k := 216) (Nat.lt_of_lt_of_le hb2 (Nat.pow_le_pow_right (by omega) hl))
 rw [hE, ek, Int.toNat_natCast, hn, Int.toNat_natCast, Int.natAbs_natCast]
 rw [hn] at h0
 have hn0 : 0 < n := by omega
 refine ⟨by omega, fun h => absurd rfl h, fun _ => ⟨⟨by omega, by omega⟩, fun h => absurd h h45, fun _ => zY.2 ⟨fun c => (by rw [h48] at c; cases c), fun _ => ⟨hi, by omega, fun h => ⟨hi, by omega, by omega, rfl⟩, fun h18 => ?_⟩⟩⟩⟩
 obtain ⟨t1, t2⟩ := rS ((a.length + 1) / 2)
 have et : ([49] ++ List.replicate ((a.length + 1) / 2) 48 : zj) = 49 :: List.replicate ((a.length + 1) / 2) 48 := rfl
 rw [et, t2, Int.natAbs_natCast]
 generalize hKK : (a.length + 1) / 2 = K at *
 generalize 10 ^ K = Z at *
 refine ⟨by simp only [ZB]; omega, by simp only [ZB]; omega, ⟨by omega, by omega⟩, by rw [List.length_replicate]; omega, t1, by rw [List.length_cons, List.length_replicate]; omega, ⟨Z, ⟨hk3, ?_, hk2⟩, fun h => h, rfl, fun _ _ _ _ => rfl⟩, fun z ⟨z1, z2, z3⟩ => ?_⟩
 ·have e : (Z + 1) * (Z + 1) = Z * Z + 2 * Z + 1 := by grind
  omega
 have z3 : z ≤ 10 ^ 108 := Nat.le_trans z3 (Nat.le_of_eq (by decide))
 obtain ⟨g1, g2⟩ := JI z1 z2 hn0
 have q1 : n / z ≤ n := Nat.div_le_self _ _
 have lz := Ws (n := z) (k := 109) (Nat.lt_of_le_of_lt z3 (Nat.pow_lt_pow_right (by omega) (by omega)))
 have lq := yz (b := 1000000000) (by omega) q1
 have lz0 : (zT 1000000000 z).length ≠ 0 := fun e => by have := wz (b := 1000000000) (by omega) e; omega
 generalize n / z = q at *
 have e2 : ((z : Int) + (q : Int)).toNat = z + q := by omega
 have e3 : Int.toNat 2 = 2 := rfl
 have hs : z + q < 10 ^ 217 := by
  have b1 : n < 10 ^ 216 := Nat.lt_of_lt_of_le hb2 (Nat.pow_le_pow_right (by omega) hl)
  have b2 : z < 10 ^ 216 := Nat.lt_of_le_of_lt z3 (Nat.pow_lt_pow_right (by omega) (by omega))
  have e : (10 : Nat) ^ 217 = 10 ^ 216 * 10 := rfl
  omega
 have ls := Ws hs
 have o2 : ZR 1000000000 [2] := .one (by omega) (by omega)
 have cl := qJ (x := zT 1000000000 ((z + q) / 2)) (y := zT 1000000000 z) (Zg _).1 (Zg _).1 (Zg _).2 (Zg _).2
 rw [xD, xD] at cl
 rw [e2, e3]
 refine ⟨(Zg _).1, (Zg _).1, (Zg _).2, (Zg _).2, lz0, by omega, by omega, (Zg _).1, (Zg _).1, by omega, by omega, (Zg _).1, o2, (Zg _).2, by decide, by decide, by omega, by decide, (Zg _).1, (Zg _).1, fun hc => ?_, fun hc => ?_⟩
 ·have hle : z ≤ (z + q) / 2 := by have := cl.1 hc; omega
  have e := g1 hle
  obtain ⟨r1, r2⟩ := Zp (n := (z : Int)) (k := 109) (by omega) (by omega) (by rw [Int.natAbs_natCast]; exact Nat.lt_of_le_of_lt z3 (Nat.pow_lt_pow_right (by omega) (by omega)))
  rw [WO, cond_false, r1, r2, ← e]
  exact ⟨(Zg _).1, (Zg _).2, by omega, rfl, rfl, rfl⟩
 ·have hlt : (z + q) / 2 < z := by
   refine Nat.lt_of_not_le fun hle => ?_
   have := cl.2 (by omega)
   omega
  obtain ⟨k1, k2⟩ := g2 hlt
  exact ⟨(z + q) / 2, ⟨⟨k1, k2, by omega⟩, hlt⟩, fun h => h, rfl, fun _ _ _ _ => rfl⟩
theorem GF {G : List (Nat × Obj)} (hG : zO G) (a : List UInt8) (hi : Zy a = true) (h0 : 0 ≤ zX a) (hl : a.length ≤ 216) : zv Tryz.prog G 152 [.str a] (.tup 2 (zw [.str (Lib.itoa (Z7 (zX a).toNat)), .i 0])) :=
 zW (T := Ge G) (an := Ht (zX a).toNat) mixed (pG hG) (Eq.mp (by kernel_rfl) (JA G a hi h0 hl))
theorem JP {G : List (Nat × Obj)} (hG : zO G) : zQ Tryz.prog G 152 oz := by
 intro xs ps r h hp
 unfold oz at h
 split at h
 ·skip
  rename_i a
  cases h
  obtain ⟨q0, q1, q2, -⟩ := ZT hp
  exact weaken (ys := [.str a]) ⟨zV _, trivial⟩ (GF hG a q0 q1 q2)
 ·cases h
end Go.Te
