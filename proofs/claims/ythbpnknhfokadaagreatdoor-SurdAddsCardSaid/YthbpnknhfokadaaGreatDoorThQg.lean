/- surd: Check. -/
import Derived.Test.YthbpnknhfokadaaGreatDoorThQc
import Derived.Shelf.Spec.SlicesGrow
import Derived.Test.YthbpnknhfokadaaGreatDoorSxJ
import Derived.Test.YthbpnknhfokadaaGreatDoorSxU
import Derived.Test.YthbpnknhfokadaaGreatDoorProg
import Derived.Test.YthbpnknhfokadaaGreatDoorThIf
import Derived.Test.YthbpnknhfokadaaGreatDoorThIk
import Derived.Test.YthbpnknhfokadaaGreatDoorArZ
set_option linter.unusedSimpArgs false
set_option linter.unusedVariables false
namespace Go.Te
open Go Go.Sx Go.Proofs Go.Ar
set_option maxRecDepth 100000
set_option maxHeartbeats 4000000
noncomputable def HX : Tb := (T0.plus 186 sG).body Tryz.prog [(153, .auto)]
theorem Ph : zz Tryz.prog HX := zz.body mixed (zz.plus zQ NC) _
theorem LQ (s : List UInt8) (h : zJ s = false) :
 ZV [AV.str s, AV.str [(47 : UInt8)]] → leB iZ (Lib.indexByte s (47 : UInt8)) = false := by
 delta iZ
 intro hb
 refine Bool.eq_false_iff.2 fun e => ?_
 obtain ⟨z, _, hlt, _, hc⟩ := (TO 47 s).1 ((Zy _ _).1 e)
 have : zJ s = true := List.any_eq_true.2 ⟨s.getD z 0, wL hlt, by rw [hc]; rfl⟩
 rw [h] at this
 cases this
def Sw : List AV → Option (List zn × AV)
 | [.str s, .str p] => some ([.b (p == [47]), .p (zJ s = false)], .b false)
 | _ => none
theorem MK : zp Tryz.prog [] 108 Sw := by
 intro xs ps r h hp
 unfold Sw at h
 split at h
 ·rename_i s p
  cases h
  have q : (p == [47]) = true := hp _ List.mem_cons_self
  have q1 : zJ s = false := hp _ (List.mem_cons_of_mem _ List.mem_cons_self)
  obtain rfl := eq_of_beq q
  exact zW mixed Ph (Eq.mp (by kernel_rfl) (LQ s q1) : vV Tryz.prog HX 108 .auto [.str s, .str [47]] (.b false))
 ·cases h
structure jO (t : Tm) : Prop where
 ne : t.c ≠ 0
 bc : bq 60 t.c
 nat : Zf RM t
 nrm : nrm (mQ t.q) = (1, mQ t.q)
theorem Js {t : Tm} (h : jO t) : mj (zT t.q) ∧ nK t.q = 1 ∧ nL t.q = t.q ∧ zJ (zT t.q) = false ∧ t.q ≠ 0 := by
 obtain ⟨b1, p1, d1, n1⟩ := wT h.nat (by decide)
 obtain ⟨e, h0, h1⟩ := h.nat.mQ
 refine ⟨⟨(ZJ (by decide) (by decide)).2 (b1.mono (by decide)), by rw [zk]; exact p1, ?_⟩, ?_, ?_, ?_, Rat.ne_of_gt p1⟩
 ·rw [zk]
  have a1 : xC t.q.num ≤ 8 := xR (by decide) b1.num
  have a2 : Lib.nDigits t.q.den ≤ 8 := (Zx (by decide)).2 b1.den
  omega
 ·unfold nK
  rw [h.nrm, d1]
  exact (show mkRat 1 1 = 1 by decide +kernel)
 ·unfold nL
  rw [h.nrm]
  exact e.symm
 ·rw [e, wB]
  exact (OW _).2.2.1
noncomputable def Hx (G : List (Nat × Obj)) : Tb := (((((Wm G).plus 43 sA).plus 44 (YO fun s => .b (zL s))).plus 83 VD).plus 47 V0).plus 108 Sw
theorem pL {G : List (Nat × Obj)} (hG : zo G) : zz Tryz.prog (Hx G) := zz.plus (zz.plus (zz.plus (zz.plus (zz.plus zQ (qQ hG)) (zp.mono Ss)) (Qd hG)) (Qn hG)) (zp.mono MK)
def Ud : List AV → Option (List zn × AV)
 | [x_t] => some ([.b (yw Tm x_t), .p (jO (Zn (α := Tm) x_t))], .i 0)
 | _ => none
theorem PN (G : List (Nat × Obj)) (t : Tm) (ht : jO t) :
 let q1 := (ByteArray.data (ByteArray.mk #[(48 : UInt8)])); let q3 := (zg (60 : Int) (wD (ze (zT (Tm.c t))))); let q2 := (!zr false q3 || zr false q3); let q4 := (ByteArray.data (ByteArray.mk #[(49 : UInt8)])); let q5 := (kI ∧ iZ = iZ); let q6 := (!zr false (zL (zT (Tm.q t))) || zr false (zL (zT (Tm.q t)))); let q8 := (bif zL (zT (Tm.q t)) then true else zT (Tm.q t) == Array.toList q1); let q7 := (!zr false q8 || zr false q8); let q9 := (kI ∧ (8 : Int) = iZ); let q11 := (bif iZ != iZ then true else
 !zT (nK (ze (zT (Tm.q t)))) == Array.toList q4); let q10 := (!zr false q11 || zr false q11); ZV [AV.agg 2 (zU.enc t)] → YQ 300 (zT (Tm.c t)) ∧ YQ 300 (zT (Tm.q t)) ∧ zZ (zT (Tm.c t) == Array.toList q1) (kI ∧ (12 : Int) = iZ) (YQ 300 (zT (Tm.c t)) ∧ bF q2 (bF q2 ((zr false q3 = true → YQ 300 (zT (Tm.q t))) ∧ bF q2 (bF (!!zg (60 : Int) (wD (ze (zT (Tm.c t)))) || zr false q3) (zZ (bif zg (60 : Int) (wD (ze (zT (Tm.c t)))) then true else zg (40 : Int) (wD (ze (zT (Tm.q t))))) (kI ∧ (4 :
 Int) = iZ) (zZ (zT (Tm.q t) == Array.toList q4) q5 (bF q6 (bF q6 (bF (!!zL (zT (Tm.q t)) || zr false (zL (zT (Tm.q t)))) (bF q7 (bF q7 (bF (!zr false q8 || bA #[(47 : UInt8)] == [(47 : UInt8)]) ((zr false q8 = true → zJ (zT (Tm.q t)) = false) ∧ bF ((!!bif zL (zT (Tm.q t)) then true else zT (Tm.q t) == Array.toList q1) || zr false q8) (zZ (bif bif zL (zT (Tm.q t)) then true else zT (Tm.q t) == Array.toList q1 then true else false) q9 (mj (zT (Tm.q t)) ∧ bF q10 (zZ
 q10 (bF q10 (bF ((!!bif iZ != iZ then true else !zT (nK (ze (zT (Tm.q t)))) == Array.toList q4) || zr false q11) (zZ (bif bif iZ != iZ then true else !zT (nK (ze (zT (Tm.q t)))) == Array.toList q4 then true else !zT (nL (ze (zT (Tm.q t)))) == zT (Tm.q t)) q9 q5))) False)))))))))))))))) := by
 delta bF bA kI iZ
 dsimp only
 intro hb
 simp only [sS, YN, yK, zk, yp, YZ, Xr, YD, dS]
 obtain ⟨q1, q2, q3, q4, q5⟩ := Js ht
 obtain ⟨b1, p1, d1, n1⟩ := wT ht.nat (by decide)
 have o1 : YQ 300 (zT t.c) := (ZJ (by decide) (by decide)).2 (ht.bc.mono (by decide))
 have o2 : YQ 300 (zT t.q) := (ZJ (by decide) (by decide)).2 (b1.mono (by decide))
 have hm : zL (zT t.q) = false := Tk o2.1 (by rw [zk]; exact Rat.le_of_lt p1)
 have l60 : zg 60 (wD t.c) = false := Bool.eq_false_iff.2 fun e => by
  have := (zq _ _).1 e
  have := W2 (by decide) ht.bc
  omega
 have l40 : zg 40 (wD t.q) = false := Bool.eq_false_iff.2 fun e => by
  have := (zq _ _).1 e
  have := W2 (by decide) b1
  omega
 have z1 : (zT t.c == [48]) = false := by rw [Xf]; exact decide_eq_false ht.ne
 have z2 : (zT t.q == [48]) = false := by rw [Xf]; exact decide_eq_false q5
 have z3 : (zT (1 : Rat) == [49]) = true := by rw [RZ]; decide
 rw [z1, l60, l40, hm, z2, q2, q3, z3]
 refine ⟨o1, o2, zX.2 ⟨fun c => (by cases c), fun _ => ⟨o1, fun _ => o2, zX.2 ⟨fun c => (by cases c), fun _ => zX.2 ⟨fun _ => trivial, fun _ => zX.2 ⟨fun _ => ⟨fun _ => q4, zX.2 ⟨fun c => (by cases c), fun _ => ⟨q1, zX.2 ⟨fun c => ?_, fun _ => trivial⟩⟩⟩⟩, fun c => (by cases c)⟩⟩⟩⟩⟩⟩
 simp at c
theorem nv {G : List (Nat × Obj)} (hG : zo G) (t : Tm) (ht : jO t) : zt Tryz.prog G 71 [Yh t] (.i 0) :=
 zW (T := Hx G) (an := .auto) mixed (pL hG) (Eq.mp (by kernel_rfl) (PN G t ht))
theorem OY {G : List (Nat × Obj)} (hG : zo G) : zp Tryz.prog G 71 Ud := by
 intro xs ps r h hp
 unfold Ud at h
 split at h
 ·skip
  rename_i x_t
  cases h
  obtain ⟨q0, q1, -⟩ := ZH hp
  exact weaken (ys := [Yh (Zn (α := Tm) x_t)]) ⟨Zu q0, trivial⟩ (nv hG (Zn (α := Tm) x_t) q1)
 ·cases h
theorem wu (x : Tm) (z : Nat → AV) : Zn (AV.agg 2 fun i => if i < 2 then zU.enc x i else z i) = x := by
 show (⟨ze (zT x.c), ze (zT x.q)⟩ : Tm) = x
 rw [zk, zk]
theorem xO (x : Tm) (z : Nat → AV) : yw Tm (AV.agg 2 fun i => if i < 2 then zU.enc x i else z i) = true := by
 show ((true && mh (zT x.c)) && (true && mh (zT x.q))) = true
 rw [V5, V5]; rfl
structure xh (s : List Tm) : Prop where
 g : gS RM s
 len : s.length ≤ 16
 bc : ∀ x ∈ s, bq 60 x.c
def KJ  : yW :=
 .two .auto (.two (.two .auto (.one (.loop Nat (fun σ z => [(0, σ.tm 0), (1, σ.tm 1), (7, σ.tm 7), (8, .i (z : Int))]) (fun σ z => []) 0 (fun σ z => 0 ≤ z) (fun σ z => 100 - z) .auto))) .auto)
def jS (s : List Tm) : yW :=
 .two .auto (.two .auto (.two (.two .auto (.one (.loop Nat (fun σ z => [(0, σ.tm 0), (11, σ.tm 11), (12, σ.tm 12), (13, .i (z : Int))]) (fun σ z => []) 0 (fun σ z => z ≤ s.length) (fun σ z => s.length - z) .auto))) .auto))
noncomputable def JL (G : List (Nat × Obj)) : Tb := ((((Wm G).plus 71 Ud).plus 29 qC).plus 74 uG).body Tryz.prog [(73, .auto)]
theorem qJ {G : List (Nat × Obj)} (hG : zo G) : zz Tryz.prog (JL G) := zz.body mixed (zz.plus (zz.plus (zz.plus zQ (OY hG)) (mP hG)) (qV hG)) _
noncomputable def Hv (G : List (Nat × Obj)) : Tb := ((JL G).body Tryz.prog [(109, KJ)]).body Tryz.prog [(72, .auto)]
theorem P1 {G : List (Nat × Obj)} (hG : zo G) : zz Tryz.prog (Hv G) := zz.body mixed (zz.body mixed (qJ hG) _) _
def SL : List AV → Option (List zn × AV)
 | [x_s] => some ([.b (zD Tm x_s), .p (xh (ZO (α := Tm) x_s))], .i 0)
 | _ => none
theorem j0 (G : List (Nat × Obj)) (s : List Tm) (hs : xh s) :
 let q1 := (AV.xl false 2 (lN s) fun i j => zU.enc (gD s i zU.dflt) j); let q2 := (kI ∧ (lZ s) = (lZ s)); let q11 := (AV.fn (Fn.func 73) 0 (fun (i : Nat) => AV.junk) 1 fun i => Option.getD [AV.np (nat_lit 0) 0][i]? AV.junk); ZV [AV.xl false 2 (lN s) fun i j => zU.enc (gD s i zU.dflt) j] → zZ (zg (16 : Int) (lZ s)) (kI ∧ (4 : Int) = iZ) ((∃ (z : Nat), (z ≤ lN s ∧ zE q1 q1 ∧ zE q1 q1 ∧ q2 ∧ kI ∧ iZ = (cI z)) ∧ True) ∧ ∀ (z :
 Nat), let q4 := (gD s (Int.toNat (cI z)) zU.dflt); let q3 := (AV.agg 2 fun (i : Nat) => if 0 ≤ 0 + i ∧ 0 + i < 2 then zU.enc q4 (0 + (0 + i - 0)) else Z0 (Value.agg #[Value.string (ByteArray.mk #[]), Value.string (ByteArray.mk #[])]) (0 + i)); let q5 := (bF (dK ((cI z) + iO)) (∃ (z' : Nat), ((z' ≤ lN s ∧ lN s - z' < lN s - z) ∧ zE q1 q1 ∧ zE q1 q1 ∧ q2 ∧ kI ∧ (cI z) + iO = (cI z')) ∧ True)); let q6 := (zT (Tm.q (gD s (Int.toNat ((cI z) - iO)) zU.dflt))); let q8 :=
 (Tm.q q4); let q7 := (zT q8); let q9 := (ze q7); let q10 := (AV.xl false 2 (Int.toNat (cI z)) fun i j => zU.enc (gD s i zU.dflt) j); let q12 := (kI ∧ (cI (Int.toNat (↑z : Int))) = (cI (Int.toNat (↑z : Int)))); let q13 := (Tm.c q4); z ≤ lN s → zZ (zg (cI z) (lZ s)) (bF (DB.db (iZ ≤ (cI z) ∧ (cI z) < (lZ s))) (bF (yw Tm q3) (jO (Zn q3) ∧ zZ ((cI z) == iZ) q5 (bF (dK ((cI z) - iO)) (bF (DB.db (iZ ≤ (cI z) - iO ∧
 (cI z) - iO < (lZ s))) (oN 140 q6 q7 ∧ zZ (bif iZ != iZ then true else leB iZ (WA (ze q6) q9)) (kI ∧ (10 : Int) = iZ) (bF (DB.db (iZ ≤ (cI z) ∧ (cI z) ≤ (lZ s))) ((∃ (z_1 : Nat), (0 ≤ z_1 ∧ zE q10 q10 ∧ zE q11 q11 ∧ q12 ∧ kI ∧ iZ = (cI z_1)) ∧ 49 = 49 ∧ 2 = 2 ∧ zT q13 = zT q13 ∧ zT q8 = zT q8) ∧ ∀ (z_1 : Nat), let q14 := (zT (Tm.q (gD s (Int.toNat (cI z_1)) zU.dflt))); 0 ≤ z_1 → zZ (zg (cI z_1) (↑(Int.toNat (cI z))
 : Int)) (bF (DB.db (iZ ≤ (cI z_1) ∧ (cI z_1) < (cI (Int.toNat (↑z : Int))))) (ku q7 q14 ∧ zZ (bif iZ == iZ then yH q9 (ze q14) else false) (kI ∧ (7 : Int) = iZ) (bF (dK ((cI z_1) + iO)) (∃ (z' : Nat), ((0 ≤ z' ∧ 100 - z' < 100 - z_1) ∧ zE q10 q10 ∧ zE q11 q11 ∧ q12 ∧ kI ∧ (cI z_1) + iO = (cI z')) ∧ 49 = 49 ∧ 2 = 2 ∧ zT q13 = zT q13 ∧ zT q8 = zT q8)))) q5)))))))) (kI ∧ iZ = iZ)) := by
 delta bF dK cI kI lZ lN gD iZ iO
 dsimp only
 intro hb
 simp only [↓yZ, ↓Zj, row_one]
 simp only [sS, YN, yK, zk, yp, YZ, Xr, YD, dS, wu, xO]
 have hl := hs.len
 have gd : ∀ x ∈ s, jO x := fun x hx => ⟨hs.g.ne x hx, hs.bc x hx, hs.g.nat x hx, hs.g.nrm x hx⟩
 have pw : ∀ (P : Tm → Tm → Prop), s.Pairwise P → ∀ i j, i < j → j < s.length → P (s.getD i zU.dflt) (s.getD j zU.dflt) := fun P hP i j hij hj => by
  have := (List.pairwise_iff_getElem.1 hP) i j (by omega) hj hij
  rw [List.getD_eq_getElem?_getD, List.getD_eq_getElem?_getD, List.getElem?_eq_getElem hj, List.getElem?_eq_getElem (show i < s.length by omega)]
  exact this
 refine ⟨fun h => by omega, fun _ => ⟨⟨0, Nat.zero_le _, rfl⟩, fun z hz => ⟨fun hlt => ?_, fun _ => trivial⟩⟩⟩
 have hzl : z < s.length := by omega
 have g1 := gd _ (yJ hzl)
 refine ⟨⟨by omega, by omega⟩, g1, fun h0 => ⟨by simp only [yn]; omega, z + 1, ⟨by omega, by omega⟩, by omega⟩, fun h0 => ?_⟩
 have e1 : ((z : Int) - 1).toNat = z - 1 := by omega
 rw [e1]
 have g2 := gd _ (yJ (show z - 1 < s.length by omega))
 have hlt2 : (s.getD (z - 1) zU.dflt).q < (s.getD z zU.dflt).q := by
  have h1 := pw K3 hs.g.le (z - 1) z (by omega) hzl
  have h2 := nl g2.nat (pw unr hs.g.unr (z - 1) z (by omega) hzl)
  exact Rat.lt_of_le_of_ne h1 h2
 have hc : leB 0 (WA (s.getD (z - 1) zU.dflt).q (s.getD z zU.dflt).q) = false := Bool.eq_false_iff.2 fun e => by
  have := (Zy _ _).1 e
  have := (V2 _ _).2 hlt2
  omega
 rw [hc]
 have oq : ∀ x : Tm, jO x → YQ 140 (zT x.q) := fun x hx => (ZJ (by decide) (by decide)).2 ((wT hx.nat (by decide)).1.mono (by decide))
 refine ⟨by simp only [yn]; omega, ⟨by omega, by omega⟩, ⟨oq _ g2, oq _ g1⟩, zX.2 ⟨fun c => (by cases c), fun _ => ⟨⟨by omega, by omega⟩, ⟨0, rfl⟩, fun k _ => ⟨fun hk => ?_, fun hk => ⟨by simp only [yn]; omega, z + 1, ⟨by omega, by omega⟩, by omega⟩⟩⟩⟩⟩
 have g3 := gd _ (yJ (show k < s.length by omega))
 have hr : yH (s.getD z zU.dflt).q (s.getD k zU.dflt).q = false := (V3 g1.nat g3.nat (by decide)).2 (pw unr hs.g.unr k z (by omega) hzl).symm
 rw [hr]
 exact ⟨⟨by omega, by omega⟩, RG g1.nat g3.nat, zX.2 ⟨fun c => (by cases c), fun _ => ⟨by simp only [yn]; omega, k + 1, by omega, by omega⟩⟩⟩
theorem Jh {G : List (Nat × Obj)} (hG : zo G) (s : List Tm) (hs : xh s) : zt Tryz.prog G 35 [ZE s] (.i 0) :=
 zW (T := Hv G) (an := jS s) mixed (P1 hG) (Eq.mp (by kernel_rfl) (j0 G s hs))
theorem OL {G : List (Nat × Obj)} (hG : zo G) : zp Tryz.prog G 35 SL := by
 intro xs ps r h hp
 unfold SL at h
 split at h
 ·skip
  rename_i x_s
  cases h
  obtain ⟨q0, q1, -⟩ := ZH hp
  exact weaken (ys := [ZE (ZO (α := Tm) x_s)]) ⟨zG q0, trivial⟩ (Jh hG (ZO (α := Tm) x_s) q1)
 ·cases h
end Go.Te

namespace Go.Proofs
open Go.Shelf
def Tryz.growCut_ren : Go.Shelf.Ren := ⟨fun | 4 => 75 | n => n, fun | 22 => 26 | 25 => 49 | 3 => 3 | 4 => 4 | 9 => 9 | 20 => 20 | 0 => 0 | n => n, fun | n => n⟩
theorem Tryz.growCut : Go.Proofs.Lays8.n4 Tryz.prog Tryz.growCut_ren := {
 mixed := by kernel_rfl
 f4 := ⟨Tryz.f75.name, by decide, Tryz.func75.trans (congrArg some (by kernel_rfl))⟩
 t0 := Tryz.underlying0
 a0 := Tryz.isAgg0
 z0 := Tryz.sizeOf0
 v0 := Tryz.zeroValue0
 t3 := Tryz.underlying3
 a3 := Tryz.isAgg3
 z3 := Tryz.sizeOf3
 v3 := Tryz.zeroValue3
 t4 := Tryz.underlying4
 a4 := Tryz.isAgg4
 z4 := Tryz.sizeOf4
 v4 := Tryz.zeroValue4
 t9 := Tryz.underlying9
 a9 := Tryz.isAgg9
 z9 := Tryz.sizeOf9
 v9 := Tryz.zeroValue9
 t20 := Tryz.underlying20
 a20 := Tryz.isAgg20
 z20 := Tryz.sizeOf20
 v20 := Tryz.zeroValue20
 t22 := Tryz.underlying26
 a22 := Tryz.isAgg26
 z22 := Tryz.sizeOf26
 v22 := Tryz.zeroValue26 }
end Go.Proofs
namespace Go.Te
open Go Go.Sx Go.Proofs Go.RowKit Go.Shelf
set_option maxHeartbeats 4000000
set_option maxRecDepth 100000
def Q3 (nb : Nat) (bl : Nat → OB) (xs : List AV) (K : Nat → (Nat → OB) → AV → Prop) : Prop :=
 match xs with
 | [.v (.slice none 0 0), .v (.int .i64 n)] => (0 ≤ n ∧ n ≤ 100000) ∧ K (nb + 1) (upd bl nb (.arr 49 2 0 fun _ _ => .junk)) (.ns nb 0 0)
 | _ => Ze xs
theorem ng (bl : Nat → OB) (nb : Nat) : upd bl nb (.arr 49 2 (0 + 0) fun a b => if a < 0 then AV.junk else AV.junk) = upd bl nb (.arr 49 2 0 fun _ _ => .junk) := by
 congr 2
theorem oI (G : List (Nat × Obj)) : UB Tryz.prog G 75 Q3 := by
 refine ⟨enters_of Tryz.func75 (by kernel_rfl) rfl, ?_, ?_⟩
 ·intro nb bl xs k k' hk h
  unfold Q3 at h ⊢
  split at h
  ·exact ⟨h.1, hk _ _ _ h.2⟩
  ·exact h
 ·intro E nb bl S ρ w xs vs k _ hM hx h
  unfold Q3 at h
  split at h
  ·rename_i n
   obtain ⟨hn, hk⟩ := h
   match vs, hx with
   | [v, v2], ⟨hv, hv2, _⟩ =>
   obtain rfl := Zr hv
   obtain rfl := Zr hv2
   obtain ⟨m, rfl⟩ : ∃ m : Nat, n = m := ⟨n.toNat, by omega⟩
   have fin : ∀ (w' : World) (v' : Value), u6 w w' 49 2 0 0 (.slice none 0 0) v' (fun _ _ => undef) (fun _ _ => undef) none →
     ∃ nb' bl' S' ρ' x rv, (Ending.returned v') = .returned rv ∧ k nb' bl' x ∧ Mem E nb' bl' S' ρ' w' ∧ (∀ b, S b → S' b ∧ w'.heap[b]? = w.heap[b]?) ∧ zI ρ ρ' ∧ zf w' S' ρ' x rv := fun w' v' hA => by
    obtain ⟨o, m1, m2, m3, m4⟩ := Xo (els := fun _ _ => .junk) (src := fun _ _ => .junk) hM hA (fun g hg => by cases hg) (fun i j hi => absurd hi (Nat.not_lt_zero _)) (fun i j hi => absurd hi (Nat.not_lt_zero _))
    rw [ng] at m1
    exact ⟨_, _, S, _, _, _, rfl, hk, m1, m3, m2, m4⟩
   by_cases h0 : m = 0
   ·subst h0
    refine (show Calls Tryz.prog 75 _ _ _ from Any8.slices_Grow_room Tryz.growCut none 0 0 0 w (Nat.le_refl _) (by omega) (by omega) (by omega)).mono ?_
    rintro e w' ⟨rfl, rfl⟩
    exact fin _ _ ⟨rfl, rfl, rfl, Nat.le_refl _, Nat.le_refl _, .inl ⟨none, rfl, rfl, rfl⟩⟩
   ·obtain ⟨i, hi, hz, hs, hby⟩ : ∃ i : TypeInfo, Tryz.prog.info? 49 = some i ∧ (∃ z, i.zero = some z ∧ z.cells.size = 2) ∧ i.size = 2 ∧ i.bytes = 32 := by
     refine ⟨_, rfl, ⟨_, rfl, ?_⟩, ?_, ?_⟩ <;> kernel_rfl
    obtain ⟨z, hz1, hz2⟩ := hz
    refine (show Calls Tryz.prog 75 _ _ _ from Any8.slices_Grow_grow Tryz.growCut i z hi hz1 (by omega) none 0 0 m [] w (Nat.le_refl _) (by omega) (by rw [hby]; omega) (by omega) (by simp) (fun _ => rfl) (fun a ha => by cases ha)).mono ?_
    rintro e w' ⟨rfl, rfl⟩
    refine fin _ _ ?_
    refine ⟨rfl, rfl, rfl, by simp, tC w 1, .inr ⟨w.heap.size, _, _, rfl, .inl rfl, Nat.zero_le _, ?_, heap_alloc_new w.drew _, ?_, fun b hb _ => heap_alloc_old w.drew _ hb, fun i j hi => absurd hi (Nat.not_lt_zero _), fun i j hi => absurd hi (Nat.not_lt_zero _)⟩⟩
    ·exact grownCap_le_maxLen w _ 0 49 (by unfold maxLen; omega)
    ·have hg := grownCap_ge w (0 + m) 0 49
     simp only [Array.size_append, List.size_toArray, List.length_nil, size_zeroCells, hz2, ← Nat.add_mul, Nat.zero_add]
     show (m - 0 + (grownCap w m 0 49 - m)) * 2 = grownCap w m 0 49 * 2
     rw [Nat.zero_add] at hg
     congr 1
     omega
  ·exact h.elim
end Go.Te

namespace Go.Te
open Go Go.Sx Go.Proofs Go.Ar
set_option maxRecDepth 100000
set_option maxHeartbeats 4000000
theorem wH (l : List Tm) : ZO (AV.xl false 2 l.length fun i j => zU.enc (l.getD i zU.dflt) j) = l := VA l
theorem XW (l : List Tm) : zD Tm (AV.xl false 2 l.length fun i j => zU.enc (l.getD i zU.dflt) j) = true := vY l
theorem Vm (s t : List Tm) : (AV.xl false 2 (s.length + t.length) fun i j => if i < s.length then (if i < 0 then AV.junk else zU.enc (s.getD i zU.dflt) j) else zU.enc (t.getD (i - s.length) zU.dflt) j) = AV.xl false 2 (s ++ t).length fun i j => zU.enc ((s ++ t).getD i zU.dflt) j := by
 rw [List.length_append]
 congr 1
 funext i j
 by_cases h : i < s.length
 ·rw [if_pos h, if_neg (Nat.not_lt_zero _), show (s ++ t).getD i zU.dflt = s.getD i zU.dflt by simp [List.getD_eq_getElem?_getD, List.getElem?_append_left h]]
 ·rw [if_neg h, show (s ++ t).getD i zU.dflt = t.getD (i - s.length) zU.dflt by simp [List.getD_eq_getElem?_getD, List.getElem?_append_right (Nat.le_of_not_lt h)]]
theorem oF : ze [45, 49] = -1 := by decide +kernel
def j8  : yW :=
 .two .auto (.two .auto (.two (.two .auto (.one (.unroll 3 .auto))) (.two .auto (.two (.two .auto (.one (.unroll 3 .auto))) .auto))))
def Jr (s : List Tm) (c : Rat) : yW :=
 .two .auto (.two .auto (.two (.two .auto (.one (.loop Nat (fun σ z => [(1, σ.tm 1), (11, σ.tm 11), (12, σ.tm 12), (6, .ns σ.nb 0 (ZK c (s.take z)).length), (13, .i (z : Int))]) (fun σ z => [(σ.nb, nj 49 (ZK c (s.take z)))]) 1 (fun σ z => z ≤ s.length) (fun σ z => s.length - z) .auto))) .auto))
def OR : List AV → Option (List zn × AV)
 | [x_s, .str c] => some ([.b (zD Tm x_s), .p ((ZO (α := Tm) x_s).length ≤ 1000), .p (YQ 10 c), .p (∀ x ∈ (ZO (α := Tm) x_s), bq 100 x.c)], .tup 2 (zw [ZE (ZK (ze c) (ZO (α := Tm) x_s)), .i 0]))
 | _ => none
theorem jn (G : List (Nat × Obj)) (s : List Tm) (c : List UInt8) (hl : s.length ≤ 1000) (hc : YQ 10 c) (hs : ∀ x ∈ s, bq 100 x.c) :
 ZV [AV.xl false 2 (lN s) fun i j => zU.enc (gD s i zU.dflt) j, AV.str c] → (∃ (z : Nat), (z ≤ lN s ∧ c = c ∧ zE (AV.xl false 2 (lN s) fun i j => zU.enc (gD s i zU.dflt) j) (AV.xl false 2 (lN s) fun i j => zU.enc (gD s i zU.dflt) j) ∧ (kI ∧ (lZ s) = (lZ s)) ∧ (some (XD Nat) = some (XD Nat) ∧ 0 = 0 ∧ lN (ZK (ze c) (List.take z s)) = 0) ∧ kI ∧ iZ = (cI z)) ∧ lN (ZK (ze c) (List.take z s)) = 0) ∧ ∀ (z : Nat), z ≤ lN s →
 zZ (zg (cI z) (lZ s)) (bF (DB.db (iZ ≤ (cI z) ∧ (cI z) < (lZ s))) (oN 140 (zT (Tm.c (gD s (Int.toNat (cI z)) zU.dflt))) c ∧ bF (DB.db ((lN (ZK (ze c) (List.take z s)) + 1) * 32 ≤ 140737488355328)) (bF (dK ((cI z) + iO)) (∃ (z' : Nat), ((z' ≤ lN s ∧ lN s - z' < lN s - z) ∧ c = c ∧ zE (AV.xl false 2 (lN s) fun i j => zU.enc (gD s i zU.dflt) j) (AV.xl false 2 (lN s) fun i j => zU.enc (gD s i zU.dflt) j) ∧
 (kI ∧ (lZ s) = (lZ s)) ∧ (nat_lit 0 = 0 ∧ 0 = 0 ∧ lN (ZK (ze c) (List.take z' s)) = lN (ZK (ze c) (List.take z s)) + 1) ∧ kI ∧ (cI z) + iO = (cI z')) ∧ (49 : TypeId) = 49 ∧ 2 = 2 ∧ lN (ZK (ze c) (List.take z' s)) = lN (ZK (ze c) (List.take z s)) + 1 ∧ ∀ (i j : Nat), i < lN (ZK (ze c) (List.take z s)) + 1 → j < 2 → zE (if i < lN (ZK (ze c) (List.take z s)) then zU.enc (gD (ZK (ze c) (List.take z s)) i zU.dflt) j else Sx.rowAt
 [zw [AV.str (zT (ze (zT (Tm.c (gD s (Int.toNat (cI z)) zU.dflt))) * ze c)), AV.str (zT (Tm.q (gD s (Int.toNat (cI z)) zU.dflt)))]] (i - lN (ZK (ze c) (List.take z s))) j) (zU.enc (gD (ZK (ze c) (List.take z' s)) i zU.dflt) j))))) (j2 ∧ (True ∧ zE (AV.xl false 2 (lN (ZK (ze c) (List.take z s))) fun i j => zU.enc (gD (ZK (ze c) (List.take z s)) (0 + i) zU.dflt) j) (AV.xl false 2 (lN (ZK (ze c) s)) fun i j => zU.enc (gD (ZK (ze c) s) i
 zU.dflt) j)) ∧ kI ∧ iZ = iZ) := by
 delta bF dK cI kI j2 lZ lN gD iZ iO
 intro hb
 simp only [↓yZ, ↓Zj, row_one]
 simp only [sS, YN, yK, zk, yp, YZ, Xr, YD, wu, xO, wH, XW, Vm, oF, dS]
 have key : ∀ z, z < s.length → ZK (ze c) (s.take (z + 1)) = ZK (ze c) (s.take z) ++ [⟨(s.getD z zU.dflt).c * ze c, (s.getD z zU.dflt).q⟩] := fun z hz => by
  rw [Uj hz]
  unfold ZK
  rw [List.map_append]; rfl
 have len : ∀ z, (ZK (ze c) (s.take z)).length ≤ s.length := fun z => by
  unfold ZK
  rw [List.length_map, List.length_take]; omega
 refine ⟨⟨0, ⟨Nat.zero_le _, rfl, rfl⟩, rfl⟩, fun z hz => ⟨fun hlt => ?_, fun hge => ?_⟩⟩
 ·have k := key z (by omega)
  have l1 := len z
  refine ⟨⟨by omega, by omega⟩, ⟨(ZJ (by decide) (by decide)).2 ((hs _ (yJ (by omega))).mono (by decide)), hc.mono (by decide)⟩, by omega, by simp only [yn]; omega, z + 1, ⟨⟨by omega, by omega⟩, by rw [k]; simp, by omega⟩, by rw [k]; simp, fun i j hi hj => ?_⟩
  rw [k]
  exact Qr _ ⟨(s.getD z zU.dflt).c * ze c, (s.getD z zU.dflt).q⟩ i j hi
 ·obtain rfl : z = s.length := by omega
  rw [List.take_length]
  exact ⟨rfl, zS _⟩
theorem iz {G : List (Nat × Obj)} (hG : zo G) (s : List Tm) (c : List UInt8) (hl : s.length ≤ 1000) (hc : YQ 10 c) (hs : ∀ x ∈ s, bq 100 x.c) : zt Tryz.prog G 38 [ZE s, .str c] (.tup 2 (zw [ZE (ZK (ze c) s), .i 0])) :=
 zW (T := (Wm G).plus 40 UJ) (an := Jr s (ze c)) mixed (zz.plus zQ (sX hG)) (Eq.mp (by kernel_rfl) (jn G s c hl hc hs))
theorem iL {G : List (Nat × Obj)} (hG : zo G) : zp Tryz.prog G 38 OR := by
 intro xs ps r h hp
 unfold OR at h
 split at h
 ·skip
  rename_i x_s c
  cases h
  obtain ⟨q0, q1, q2, q3, -⟩ := ZH hp
  exact weaken (ys := [ZE (ZO (α := Tm) x_s), .str c]) ⟨zG q0, zS _, trivial⟩ (iz hG (ZO (α := Tm) x_s) c q1 q2 q3)
 ·cases h
noncomputable def KG (G : List (Nat × Obj)) : Tb := ((Tb.own1 ((((Wm G).plus 35 SL).plus 20 SH).plus 38 OR) 75 Q3).body Tryz.prog [(36, .auto), (37, j8)])
theorem Uf {G : List (Nat × Obj)} (hG : zo G) : zz Tryz.prog (KG G) := zz.body mixed (zz.own1 (zz.plus (zz.plus (zz.plus zQ (OL hG)) (nh hG)) (iL hG)) (oI G)) _
def RJ : List AV → Option (List zn × AV)
 | [x_s, x_t] => some ([.b (zD Tm x_s), .b (zD Tm x_t), .p (xh (ZO (α := Tm) x_s)), .p (xh (ZO (α := Tm) x_t)), .p (wv ((ZO (α := Tm) x_s) ++ (ZO (α := Tm) x_t)))], .tup 2 (zw [ZE (ZD ((ZO (α := Tm) x_s) ++ (ZO (α := Tm) x_t))), .i 0]))
 | _ => none
theorem Lh (G : List (Nat × Obj)) (s : List Tm) (t : List Tm) (hs : xh s) (ht : xh t) (hm : wv (s ++ t)) :
 let q1 := (AV.xl false 2 (lN s) fun i j => zU.enc (gD s i zU.dflt) j); let q2 := (AV.xl false 2 (lN t) fun i j => zU.enc (gD t i zU.dflt) j); let q3 := (AV.xl false 2 (0 + lN s + lN t) fun i j => if 0 + i < 0 + lN s then if 0 + i < 0 then AV.junk else zU.enc (gD s (0 + i - 0) zU.dflt) j else zU.enc (gD t (0 + i - (0 + lN s)) zU.dflt) j); let q4 := (ZO q3); let q5 := (ZD q4); ZV [AV.xl false 2 (lN s) fun i j => zU.enc (gD s i zU.dflt) j, AV.xl false 2 (lN t) fun i j => zU.enc
 (gD t i zU.dflt) j] → bF (zD Tm q1) (xh (ZO q1) ∧ bF (!zr true (iZ == iZ) || zD Tm q2) ((zr true (iZ == iZ) = true → xh (ZO q2)) ∧ bF (dK (iZ + (lZ s))) (bF (dK (iZ + (lZ s) + (lZ t))) ((iZ ≤ iZ + (lZ s) + (lZ t) ∧ iZ + (lZ s) + (lZ t) ≤ (100000 : Int)) ∧ bF (DB.db ((0 + lN s) * 32 ≤ 140737488355328)) (bF (DB.db ((0 + List.length
 s + lN t) * 32 ≤ 140737488355328)) (bF (zD Tm q3) (wv q4 ∧ j2 ∧ (True ∧ zE (AV.xl false 2 (lN q5) fun i j => zU.enc (gD q5 i zU.dflt) j) (AV.xl false 2 (lN (ZD (s ++ t))) fun i j => zU.enc (gD (ZD (s ++ t)) i zU.dflt) j)) ∧ kI ∧ iZ = iZ))))))) := by
 delta bF dK kI j2 lZ lN gD iZ
 dsimp only
 intro hb
 simp only [↓yZ, ↓Zj, row_one]
 simp only [sS, YN, yK, zk, yp, YZ, Xr, YD, wu, xO, wH, XW, Vm, oF, dS]
 have l1 := hs.len
 have l2 := ht.len
 exact ⟨hs, fun _ => ht, by simp only [yn]; omega, by simp only [yn]; omega, ⟨by omega, by omega⟩, by omega, by omega, hm, rfl⟩
theorem NR {G : List (Nat × Obj)} (hG : zo G) (s : List Tm) (t : List Tm) (hs : xh s) (ht : xh t) (hm : wv (s ++ t)) : zt Tryz.prog G 12 [ZE s, ZE t] (.tup 2 (zw [ZE (ZD (s ++ t)), .i 0])) :=
 zW (T := KG G) (an := .auto) mixed (Uf hG) (Eq.mp (by kernel_rfl) (Lh G s t hs ht hm))
theorem KY {G : List (Nat × Obj)} (hG : zo G) : zp Tryz.prog G 12 RJ := by
 intro xs ps r h hp
 unfold RJ at h
 split at h
 ·skip
  rename_i x_s x_t
  cases h
  obtain ⟨q0, q1, q2, q3, q4, -⟩ := ZH hp
  exact weaken (ys := [ZE (ZO (α := Tm) x_s), ZE (ZO (α := Tm) x_t)]) ⟨zG q0, zG q1, trivial⟩ (NR hG (ZO (α := Tm) x_s) (ZO (α := Tm) x_t) q2 q3 q4)
 ·cases h
def SV : List AV → Option (List zn × AV)
 | [x_s, x_t] => some ([.b (zD Tm x_s), .b (zD Tm x_t), .p (xh (ZO (α := Tm) x_s)), .p (xh (ZO (α := Tm) x_t)), .p (wv ((ZO (α := Tm) x_s) ++ ZK (-1) (ZO (α := Tm) x_t)))], .tup 2 (zw [ZE (ZD ((ZO (α := Tm) x_s) ++ ZK (-1) (ZO (α := Tm) x_t))), .i 0]))
 | _ => none
theorem lu (G : List (Nat × Obj)) (s : List Tm) (t : List Tm) (hs : xh s) (ht : xh t) (hm : wv (s ++ ZK (-1) t)) :
 let q1 := (AV.xl false 2 (lN s) fun i j => zU.enc (gD s i zU.dflt) j); let q2 := (AV.xl false 2 (lN t) fun i j => zU.enc (gD t i zU.dflt) j); let q3 := (ZO q2); let q4 := (bA #[(45 : UInt8), (49 : UInt8)]); let q6 := (ZK (ze q4) q3); let q5 := (lZ q6); let q7 := (0 + lN s + lN q6); let q8 := (AV.xl false 2 q7 fun i j => if 0 + i < 0 + lN s then if 0 + i < 0 then AV.junk else zU.enc (gD s (0 + i - 0) zU.dflt) j else zU.enc (gD q6 (0 + i - (0 +
 lN s)) zU.dflt) j); let q9 := (ZO q8); let q10 := (ZD q9); ZV [AV.xl false 2 (lN s) fun i j => zU.enc (gD s i zU.dflt) j, AV.xl false 2 (lN t) fun i j => zU.enc (gD t i zU.dflt) j] → bF (zD Tm q1) (xh (ZO q1) ∧ bF (!zr true (iZ == iZ) || zD Tm q2) ((zr true (iZ == iZ) = true → xh q3) ∧ bF (zD Tm q2) (lN q3 ≤ 1000 ∧ YQ 10 q4 ∧ (∀ (x : Tm), List.Mem x q3 → bq 100 (Tm.c x)) ∧ bF (dK (iZ + (lZ s))) (bF (dK (iZ +
 (lZ s) + q5)) ((iZ ≤ iZ + (lZ s) + q5 ∧ iZ + (lZ s) + q5 ≤ (100000 : Int)) ∧ bF (DB.db ((0 + lN s) * 32 ≤ 140737488355328)) (bF (DB.db (q7 * 32 ≤ 140737488355328)) (zZ (zD Tm q8) (wv q9 ∧ j2 ∧ (True ∧ zE (AV.xl false 2 (lN q10) fun i j => zU.enc (gD q10 i zU.dflt) j) (AV.xl false 2 (lN (ZD (s ++ ZK (-1 : Rat) t))) fun i j => zU.enc (gD (ZD (s ++ ZK (-1 : Rat) t)) i zU.dflt) j)) ∧ kI ∧ iZ = iZ)
 False))))))) := by
 delta bF dK bA kI j2 lZ lN gD iZ
 dsimp only
 intro hb
 simp only [↓yZ, ↓Zj, row_one]
 simp only [sS, YN, yK, zk, yp, YZ, Xr, YD, wu, xO, wH, XW, Vm, oF, dS]
 have l1 := hs.len
 have l2 := ht.len
 have l3 : (ZK (-1) t).length = t.length := by unfold ZK; rw [List.length_map]
 refine ⟨hs, fun _ => ht, by omega, ⟨by decide +kernel, ⟨by decide +kernel, by decide +kernel⟩⟩, fun x hx => (ht.bc x hx).mono (by decide), by simp only [yn]; omega, by simp only [yn]; omega, ⟨by omega, by omega⟩, by omega, by omega, hm, rfl⟩
theorem Np {G : List (Nat × Obj)} (hG : zo G) (s : List Tm) (t : List Tm) (hs : xh s) (ht : xh t) (hm : wv (s ++ ZK (-1) t)) : zt Tryz.prog G 13 [ZE s, ZE t] (.tup 2 (zw [ZE (ZD (s ++ ZK (-1) t)), .i 0])) :=
 zW (T := KG G) (an := .auto) mixed (Uf hG) (Eq.mp (by kernel_rfl) (lu G s t hs ht hm))
theorem mT {G : List (Nat × Obj)} (hG : zo G) : zp Tryz.prog G 13 SV := by
 intro xs ps r h hp
 unfold SV at h
 split at h
 ·skip
  rename_i x_s x_t
  cases h
  obtain ⟨q0, q1, q2, q3, q4, -⟩ := ZH hp
  exact weaken (ys := [ZE (ZO (α := Tm) x_s), ZE (ZO (α := Tm) x_t)]) ⟨zG q0, zG q1, trivial⟩ (Np hG (ZO (α := Tm) x_s) (ZO (α := Tm) x_t) q2 q3 q4)
 ·cases h
def pZ (s t : List Tm) (i k : Nat) : List Tm := xu (s.take i) t ++ (t.take k).map (L5 (s.getD i zU.dflt))
def K2 (s t : List Tm) : yW :=
 .two .auto (.two .auto (.two .auto (.two (.two .auto (.one (.loop Nat (fun σ z => [(1, σ.tm 1), (18, σ.tm 18), (19, σ.tm 19), (6, .ns σ.nb 0 (xu (s.take z) t).length), (20, .i (z : Int))]) (fun σ z => [(σ.nb, nj 49 (xu (s.take z) t))]) 1 (fun σ z => z ≤ s.length) (fun σ z => s.length - z) (.two .auto (.two .auto (.two (.one (.two .auto (.two .auto (.one (.loop Nat (fun σ z => [(1, σ.tm 1), (8, σ.tm 8), (18, σ.tm 18), (19, σ.tm 19), (20, σ.tm 20), (24, σ.tm 24), (25, σ.tm 25), (6, .ns (Yp (σ.tm 6)) 0 (pZ s t (AV.int (σ.tm 20)).toNat z).length), (26, .i (z : Int))]) (fun σ z => [(Yp (σ.tm 6), nj 49 (pZ s t (AV.int (σ.tm 20)).toNat z))]) 0 (fun σ z => z ≤ t.length) (fun σ z => t.length - z) .auto))))) .auto)))))) .auto)))
noncomputable def Jk (G : List (Nat × Obj)) : Tb := ((((Wm G).plus 35 SL).plus 20 SH).plus 40 UJ).body Tryz.prog [(36, .auto)]
theorem QU {G : List (Nat × Obj)} (hG : zo G) : zz Tryz.prog (Jk G) := zz.body mixed (zz.plus (zz.plus (zz.plus zQ (OL hG)) (nh hG)) (sX hG)) _
theorem JV (G : List (Nat × Obj)) (s : List Tm) (t : List Tm) (hs : xh s) (ht : xh t) (hm : wv (xu s t)) :
 let q1 := (AV.xl false 2 (lN s) fun i j => zU.enc (gD s i zU.dflt) j); let q2 := (AV.xl false 2 (lN t) fun i j => zU.enc (gD t i zU.dflt) j); let q3 := (kI ∧ (lZ s) = (lZ s)); let q5 := (kI ∧ (lZ t) = (lZ t)); ZV [AV.xl false 2 (lN s) fun i j => zU.enc (gD s i zU.dflt) j, AV.xl false 2 (lN t) fun i j => zU.enc (gD t i zU.dflt) j] → bF (zD Tm q1) (xh (ZO q1) ∧ zZ (!zr true (iZ == iZ) || zD
 Tm q2) ((zr true (iZ == iZ) = true → xh (ZO q2)) ∧ (∃ (z : Nat), (z ≤ lN s ∧ zE q2 q2 ∧ zE q1 q1 ∧ q3 ∧ (some (XD Nat) = some (XD Nat) ∧ 0 = 0 ∧ lN (xu (List.take z s) t) = 0) ∧ kI ∧ iZ = (cI z)) ∧ lN (xu (List.take z s) t) = 0) ∧ ∀ (z : Nat), let q4 := (kI ∧ (cI z) = (cI z)); let q7 := (Int.toNat (AV.int (aI (cI z)))); let q9 := (gD s (Int.toNat (cI z)) zU.dflt); let q8 := (Tm.c q9); let q10 := (Tm.q q9); let q11 := (zT q8); let q14 := (zT q10); let q18
 := (AV.xl false 2 (lN (xu (List.take z s) t)) fun i j => zU.enc (gD (xu (List.take z s) t) (0 + i) zU.dflt) j); let q19 := (ZO q18); let q20 := (ZD q19); z ≤ lN s → zZ (zg (cI z) (lZ s)) (bF (DB.db (iZ ≤ (cI z) ∧ (cI z) < (lZ s))) ((∃ (z_1 : Nat), let q6 := (pZ s t q7 z_1); (z_1 ≤ lN t ∧ zE q2 q2 ∧ (nat_lit 1 = 1 ∧ 0 = 0) ∧ zE q1 q1 ∧ q3 ∧ q4 ∧ zE q2 q2 ∧ q5 ∧ (nat_lit 0 = 0 ∧ 0 = 0 ∧ lN q6 = lN (xu (List.take z s) t)) ∧ kI ∧ iZ = (cI z_1))
 ∧ (49 = 49 ∧ 2 = 2 ∧ lN q6 = lN (xu (List.take z s) t) ∧ ∀ (i j : Nat), i < lN (xu (List.take z s) t) → j < 2 → zE (zU.enc (gD (xu (List.take z s) t) i zU.dflt) j) (zU.enc (gD q6 i zU.dflt) j)) ∧ 49 = 49 ∧ 2 = 2 ∧ zT q8 = zT q8 ∧ zT q10 = zT q10) ∧ ∀ (z_1 : Nat), let q13 := (gD t (Int.toNat (cI z_1)) zU.dflt); let q12 := (zT (Tm.c q13)); let q15 := (zT (Tm.q q13)); let q16 := (pZ s t q7 z_1); z_1 ≤ lN t → zZ (zg (cI z_1) (lZ t)) (bF (DB.db (iZ ≤ (cI z_1) ∧ (cI z_1)
 < (lZ t))) (oN 140 q11 q12 ∧ oN 140 q14 q15 ∧ bF (DB.db ((lN q16 + 1) * 32 ≤ 140737488355328)) (bF (dK ((cI z_1) + iO)) (∃ (z' : Nat), let q17 := (pZ s t q7 z'); ((z' ≤ lN t ∧ lN t - z' < lN t - z_1) ∧ zE q2 q2 ∧ (nat_lit 1 = 1 ∧ 0 = 0) ∧ zE q1 q1 ∧ q3 ∧ q4 ∧ zE q2 q2 ∧ q5 ∧ (nat_lit 0 = 0 ∧ 0 = 0 ∧ lN q17 = lN q16 + 1) ∧ kI ∧ (cI z_1) + iO = (cI z')) ∧ ((49 : TypeId) = 49 ∧ 2 = 2 ∧ lN q17 = lN q16 + 1 ∧ ∀ (i j : Nat), i < List.length
 q16 + 1 → j < 2 → zE (if i < lN q16 then zU.enc (gD q16 i zU.dflt) j else Sx.rowAt [zw [AV.str (zT (ze q11 * ze q12)), AV.str (zT (ze q14 * ze q15))]] (i - lN q16) j) (zU.enc (gD q17 i zU.dflt) j)) ∧ 49 = 49 ∧ 2 = 2 ∧ zT q8 = zT q8 ∧ zT q10 = zT q10)))) (bF (dK ((cI z) + iO)) (∃ (z' : Nat), ((z' ≤ lN s ∧ lN s - z' < lN s - z) ∧ zE q2 q2 ∧ zE q1 q1 ∧ q3 ∧ (nat_lit 0 = 0 ∧ 0 = 0 ∧ lN (xu (List.take z' s) t) = lN q16) ∧ kI ∧ (↑z :
 Int) + iO = (cI z')) ∧ 49 = 49 ∧ 2 = 2 ∧ lN (xu (List.take z' s) t) = lN q16 ∧ ∀ (i j : Nat), i < lN q16 → j < 2 → zE (zU.enc (gD q16 i zU.dflt) j) (zU.enc (gD (xu (List.take z' s) t) i zU.dflt) j))))) (bF (zD Tm q18) (wv q19 ∧ j2 ∧ (True ∧ zE (AV.xl false 2 (lN q20) fun i j => zU.enc (gD q20 i zU.dflt) j) (AV.xl false 2 (lN (ZD (xu s t))) fun i j => zU.enc (gD (ZD (xu s t)) i zU.dflt) j)) ∧ kI ∧ iZ = iZ)))
 False) := by
 delta bF dK cI kI j2 lZ lN gD iZ iO aI
 dsimp only
 intro hb
 simp only [↓yZ, ↓Zj, row_one]
 simp only [sS, YN, yK, zk, yp, YZ, Xr, YD, wu, xO, wH, XW, Vm, oF, dS]
 have l1 := hs.len
 have l2 := ht.len
 have lm : ∀ z, (xu (s.take z) t).length ≤ 16 * 16 := fun z => by
  rw [Oi, List.length_take]
  exact Nat.mul_le_mul (by omega) l2
 have lp : ∀ z k, (pZ s t z k).length ≤ 16 * 16 + 16 := fun z k => by
  unfold pZ
  rw [List.length_append, List.length_map, List.length_take]
  have := lm z
  omega
 have p0 : ∀ z, pZ s t z 0 = xu (s.take z) t := fun z => by unfold pZ; simp
 have p1 : ∀ z k, k < t.length → pZ s t z (k + 1) = pZ s t z k ++ [L5 (s.getD z zU.dflt) (t.getD k zU.dflt)] := fun z k hk => by
  unfold pZ
  rw [Uj hk, List.map_append, ← List.append_assoc]; rfl
 have p2 : ∀ z, z < s.length → xu (s.take (z + 1)) t = pZ s t z t.length := fun z hz => by
  unfold pZ
  rw [Uj hz, List.take_length]
  unfold xu
  rw [List.flatMap_append]
  simp
 have okq : ∀ q : Rat, bq 60 q → YQ 140 (zT q) := fun q hq => (ZJ (by decide) (by decide)).2 (hq.mono (by decide))
 have oq : ∀ x : Tm, Zf RM x → bq 60 x.q := fun x hx => (wT hx (by decide)).1.mono (by decide)
 refine ⟨hs, fun _ => ht, ⟨0, ⟨Nat.zero_le _, rfl, rfl⟩, rfl⟩, fun z hz => ⟨fun hlt => ⟨⟨by omega, by omega⟩, ⟨0, ⟨Nat.zero_le _, by rw [p0], rfl⟩, by rw [p0], fun i j _ _ => by rw [p0]; exact zS _⟩, fun k hk => ⟨fun kl => ?_, fun kg => ?_⟩⟩, fun hge => ?_⟩⟩
 ·have e := p1 z k (by omega)
  have hx := yJ (l := s) (i := z) (by omega)
  have hy := yJ (l := t) (i := k) (by omega)
  have := lp z k
  refine ⟨⟨by omega, by omega⟩, ⟨okq _ (hs.bc _ hx), okq _ (ht.bc _ hy)⟩, ⟨okq _ (oq _ (hs.g.nat _ hx)), okq _ (oq _ (ht.g.nat _ hy))⟩, by omega, by simp only [yn]; omega, k + 1, ⟨⟨by omega, by omega⟩, by rw [e]; simp, by omega⟩, by rw [e]; simp, fun i j hi hj => ?_⟩
  rw [e]
  exact Qr _ (L5 (s.getD z zU.dflt) (t.getD k zU.dflt)) i j hi
 ·obtain rfl : k = t.length := by omega
  have e := p2 z (by omega)
  exact ⟨by simp only [yn]; omega, z + 1, ⟨⟨by omega, by omega⟩, by rw [e], by omega⟩, by rw [e], fun i j _ _ => by rw [e]; exact zS _⟩
 ·obtain rfl : z = s.length := by omega
  rw [List.take_length]
  exact ⟨hm, rfl, zS _⟩
theorem iG {G : List (Nat × Obj)} (hG : zo G) (s : List Tm) (t : List Tm) (hs : xh s) (ht : xh t) (hm : wv (xu s t)) : zt Tryz.prog G 16 [ZE s, ZE t] (.tup 2 (zw [ZE (ZD (xu s t)), .i 0])) :=
 zW (T := Jk G) (an := K2 s t) mixed (QU hG) (Eq.mp (by kernel_rfl) (JV G s t hs ht hm))
structure mI (s t : List Tm) : Prop where
 fs : xh s
 ft : xh t
 made : wv (s ++ ZK (-1) t)
 no : ZD (s ++ ZK (-1) t) = []
def Rr : List AV → Option (List zn × AV)
 | [x, y] => some ([.b (zD Tm x), .b (zD Tm y), .p (mI (ZO x) (ZO y))], .tup 2 (zw [ZE ([] : List Tm), .i 0]))
 | _ => none
theorem Jq {G : List (Nat × Obj)} (hG : zo G) : zp Tryz.prog G 13 Rr := by
 intro xs ps r h hp
 unfold Rr at h
 split at h
 ·rename_i x y
  cases h
  obtain ⟨q0, q1, -⟩ := ZH hp
  have q2 : mI (ZO x) (ZO y) := hp _ (List.mem_cons_of_mem _ (List.mem_cons_of_mem _ List.mem_cons_self))
  have := Np hG (ZO x) (ZO y) q2.1 q2.2 q2.3
  rw [q2.4] at this
  exact weaken (ys := [_, _]) ⟨zG q0, zG q1, trivial⟩ this
 ·cases h
def Rh : List AV → Option (List zn × AV)
 | [x_s, x_t] => some ([.b (zD Tm x_s), .b (zD Tm x_t), .p (mI (ZO (α := Tm) x_s) (ZO (α := Tm) x_t))], .tup 2 (zw [.i 0, .i 0]))
 | _ => none
theorem lP (G : List (Nat × Obj)) (s : List Tm) (t : List Tm) (h : mI s t) :
 let q1 := (AV.xl false 2 (lN s) fun i j => zU.enc (gD s i zU.dflt) j); let q2 := (AV.xl false 2 (lN t) fun i j => zU.enc (gD t i zU.dflt) j); ZV [AV.xl false 2 (lN s) fun i j => zU.enc (gD s i zU.dflt) j, AV.xl false 2 (lN t) fun i j => zU.enc (gD t i zU.dflt) j] → bF (zD Tm q1) (bF (zD Tm q2) (mI (ZO q1) (ZO q2) ∧ j2 ∧ (True ∧ kI ∧ iZ = iZ) ∧ kI ∧ iZ = iZ)) := by
 delta bF kI j2 lN gD iZ
 dsimp only
 intro hb
 simp only [↓yZ, ↓Zj, row_one]
 simp only [sS, YN, yK, zk, yp, YZ, Xr, YD, wu, xO, wH, XW, Vm, oF, dS]
 exact ⟨h, rfl⟩
theorem Ke {G : List (Nat × Obj)} (hG : zo G) (s : List Tm) (t : List Tm) (h : mI s t) : zt Tryz.prog G 23 [ZE s, ZE t] (.tup 2 (zw [.i 0, .i 0])) :=
 zW (T := ((Wm G).plus 13 Rr).body Tryz.prog [(41, .auto)]) (an := .auto) mixed (zz.body mixed (zz.plus zQ (Jq hG)) _) (Eq.mp (by kernel_rfl) (lP G s t h))
theorem jk {G : List (Nat × Obj)} (hG : zo G) : zp Tryz.prog G 23 Rh := by
 intro xs ps r h hp
 unfold Rh at h
 split at h
 ·skip
  rename_i x_s x_t
  cases h
  obtain ⟨q0, q1, q2, -⟩ := ZH hp
  exact weaken (ys := [ZE (ZO (α := Tm) x_s), ZE (ZO (α := Tm) x_t)]) ⟨zG q0, zG q1, trivial⟩ (Ke hG (ZO (α := Tm) x_s) (ZO (α := Tm) x_t) q2)
 ·cases h
end Go.Te

namespace Go.Te
open Go Go.Sx Go.Proofs Go.Ar Go.Lib
set_option maxRecDepth 100000
set_option maxHeartbeats 4000000
theorem MP  :
 True := by
 trivial
theorem lX  :
 True := by
 trivial
theorem Mw  :
 True := by
 trivial
theorem MJ  :
 True := by
 trivial
theorem mb  :
 True := by
 trivial
theorem L6  :
 True := by
 trivial
theorem mE  :
 True := by
 trivial
theorem lU  :
 True := by
 trivial
theorem Mg  :
 True := by
 trivial
theorem MH  :
 True := by
 trivial
theorem MA  :
 True := by
 trivial
theorem M3  :
 True := by
 trivial
theorem Ln  :
 True := by
 trivial
theorem Lj  :
 True := by
 trivial
theorem lV  :
 True := by
 trivial
theorem LS  :
 True := by
 trivial
theorem kx  :
 True := by
 trivial
theorem LD  :
 True := by
 trivial
theorem LO  :
 True := by
 trivial
theorem Mn  :
 True := by
 trivial
theorem L4  :
 True := by
 trivial
theorem Mz  :
 True := by
 trivial
theorem Lo  :
 True := by
 trivial
theorem LM  :
 True := by
 trivial
theorem l9  :
 True := by
 trivial
theorem Lr  :
 True := by
 trivial
def TN : List AV → Option (List zn × AV)
 | [.str s, .v (.int .i64 k)] => some ([.b (s == [48]), .p (0 ≤ k ∧ k ≤ 40)], .str (List.replicate k.toNat 48))
 | _ => none
theorem oB : zp Tryz.prog [] 116 TN := by
 intro xs ps r h hp
 unfold TN at h
 split at h
 ·rename_i s k
  cases h
  have q : (s == [48]) = true := hp _ List.mem_cons_self
  have q1 : 0 ≤ k ∧ k ≤ 40 := hp _ (List.mem_cons_of_mem _ List.mem_cons_self)
  obtain rfl := eq_of_beq q
  obtain ⟨n, rfl⟩ : ∃ n : Nat, k = n := ⟨k.toNat, by omega⟩
  by_cases hs : n ≤ 14
  ·exact kj _ _ _ rfl fun c hc => by
    rcases List.mem_cons.1 hc with rfl | hc
    ·exact q
    ·rw [List.mem_singleton.1 hc]
     show (0 : Int) ≤ n ∧ (n : Int) ≤ 14
     omega
  ·obtain ⟨m, rfl⟩ : ∃ m, n = m + 15 := ⟨n - 15, by omega⟩
   match m, q1 with
   | 0, _ => exact yG rfl (Eq.mp (by kernel_rfl) MP)
   | 1, _ => exact yG rfl (Eq.mp (by kernel_rfl) lX)
   | 2, _ => exact yG rfl (Eq.mp (by kernel_rfl) Mw)
   | 3, _ => exact yG rfl (Eq.mp (by kernel_rfl) MJ)
   | 4, _ => exact yG rfl (Eq.mp (by kernel_rfl) mb)
   | 5, _ => exact yG rfl (Eq.mp (by kernel_rfl) L6)
   | 6, _ => exact yG rfl (Eq.mp (by kernel_rfl) mE)
   | 7, _ => exact yG rfl (Eq.mp (by kernel_rfl) lU)
   | 8, _ => exact yG rfl (Eq.mp (by kernel_rfl) Mg)
   | 9, _ => exact yG rfl (Eq.mp (by kernel_rfl) MH)
   | 10, _ => exact yG rfl (Eq.mp (by kernel_rfl) MA)
   | 11, _ => exact yG rfl (Eq.mp (by kernel_rfl) M3)
   | 12, _ => exact yG rfl (Eq.mp (by kernel_rfl) Ln)
   | 13, _ => exact yG rfl (Eq.mp (by kernel_rfl) Lj)
   | 14, _ => exact yG rfl (Eq.mp (by kernel_rfl) lV)
   | 15, _ => exact yG rfl (Eq.mp (by kernel_rfl) LS)
   | 16, _ => exact yG rfl (Eq.mp (by kernel_rfl) kx)
   | 17, _ => exact yG rfl (Eq.mp (by kernel_rfl) LD)
   | 18, _ => exact yG rfl (Eq.mp (by kernel_rfl) LO)
   | 19, _ => exact yG rfl (Eq.mp (by kernel_rfl) Mn)
   | 20, _ => exact yG rfl (Eq.mp (by kernel_rfl) L4)
   | 21, _ => exact yG rfl (Eq.mp (by kernel_rfl) Mz)
   | 22, _ => exact yG rfl (Eq.mp (by kernel_rfl) Lo)
   | 23, _ => exact yG rfl (Eq.mp (by kernel_rfl) LM)
   | 24, _ => exact yG rfl (Eq.mp (by kernel_rfl) l9)
   | 25, _ => exact yG rfl (Eq.mp (by kernel_rfl) Lr)
   | m + 26, q1 => exact absurd q1.2 (by omega)
 ·cases h
end Go.Te

namespace Go.Te
open Go Go.Sx Go.Proofs Go.Ar Go.Lib
set_option maxRecDepth 100000
set_option maxHeartbeats 4000000
def jZ (n : Nat) : yW :=
 .two .auto (.two .auto (.two .auto (.two .auto (.two (.one (.loop Nat (fun σ z => [(4, σ.tm 4), (6, .i (z : Int))]) (fun σ z => []) 0 (fun σ z => 0 < z ∧ z ≤ 2000000000) (fun σ z => 4000000000 - z) .auto)) (.one (.loop Nat (fun σ z => [(4, σ.tm 4), (6, .i (z : Int))]) (fun σ z => []) 0 (fun σ z => 0 < z ∧ z ≤ 2000000000 ∧ n < (z + 1) * (z + 1)) (fun σ z => z) .auto))))))
def Qy : List AV → Option (List zn × AV)
 | [.str a] => some ([.p (ZZ a = true), .p (0 < zY a), .p (a.length ≤ 18)], .tup 2 (zw [.str (Lib.itoa (yU (zY a).toNat)), .i 0]))
 | _ => none
theorem MI (G : List (Nat × Obj)) (a : List UInt8) (hi : ZZ a = true) (h0 : 0 < zY a) (hl : a.length ≤ 18) :
 ZV [AV.str a] → bF (ZZ a) (lN a ≤ 18 ∧ (∃ (z : Nat), ((0 < z ∧ z ≤ 2000000000) ∧ (kI ∧ zY a = zY a) ∧ kI ∧ iO = (cI z)) ∧ True) ∧ ∀ (z : Nat), 0 < z ∧ z ≤ 2000000000 → bF (DB.db ((cI z) ≠ iZ)) (bF (dK (Int.tdiv (zY a) (cI z))) (zZ (zg (cI z) (Int.tdiv (zY a) (cI z))) (bF (dK ((cI z) * (2 : Int))) (∃ (z' : Nat), (((0 < z' ∧ z' ≤ 2000000000) ∧ 4000000000 - z' < 4000000000 - z) ∧ (kI ∧ zY a = zY a) ∧ kI ∧ (cI z) * (2 :
 Int) = (cI z')) ∧ True)) ((∃ (z_1 : Nat), ((0 < z_1 ∧ z_1 ≤ 2000000000 ∧ Int.toNat (zY a) < (z_1 + 1) * (z_1 + 1)) ∧ (kI ∧ zY a = zY a) ∧ kI ∧ (cI z) = (cI z_1)) ∧ True) ∧ ∀ (z : Nat), 0 < z ∧ z ≤ 2000000000 ∧ Int.toNat (zY a) < (z + 1) * (z + 1) → bF (DB.db ((cI z) ≠ iZ)) (bF (dK (Int.tdiv (zY a) (cI z))) (bF (dK ((cI z) + Int.tdiv (zY a) (cI z))) (bF (dK (Int.tdiv ((cI z) + Int.tdiv (zY a) (cI z)) (2 : Int))) (zZ (leB (cI z) (Int.tdiv
 ((cI z) + Int.tdiv (zY a) (cI z)) (2 : Int))) ((iN ≤ (cI z) ∧ (cI z) ≤ iX) ∧ j2 ∧ (True ∧ itoa (cI z) = itoa (cI (yU (Int.toNat (zY a))))) ∧ kI ∧ iZ = iZ) (∃ (z' : Nat), (((0 < z' ∧ z' ≤ 2000000000 ∧ Int.toNat (zY a) < (z' + 1) * (z' + 1)) ∧ z' < z) ∧ (kI ∧ zY a = zY a) ∧ kI ∧ Int.tdiv ((cI z) + Int.tdiv (zY a) (cI z)) (2 : Int) = (cI z')) ∧ True))))))))) := by
 delta bF dK cI kI j2 lN iZ iO iX iN
 intro hb
 simp only [↓yZ, ↓Zj, row_one]
 simp only [sS, dS]
 obtain ⟨n, hn⟩ : ∃ n : Nat, zY a = n := ⟨(zY a).toNat, by omega⟩
 have hb2 : (zY a).natAbs < 10 ^ 18 := Nat.lt_of_lt_of_le (oU hi) (Nat.pow_le_pow_right (by omega) hl)
 rw [show 10 ^ 18 = 1000000000000000000 from by decide] at hb2
 rw [hn] at hb2 h0 ⊢
 rw [Int.natAbs_natCast] at hb2
 rw [Int.toNat_natCast, hi]
 have hn0 : 0 < n := by omega
 have ed : ∀ z : Nat, (n : Int).tdiv (z : Int) = ((n / z : Nat) : Int) := fun z => by rw [Int.tdiv_eq_ediv_of_nonneg (by omega), Int.natCast_ediv]
 refine zX.2 ⟨fun _ => ⟨hl, ⟨1, by omega, rfl⟩, fun z ⟨z1, z2⟩ => ?_⟩, fun c => (by cases c)⟩
 have q1 : n / z ≤ n := Nat.div_le_self _ _
 have q2 := Nat.div_mul_le_self n z
 have q3 := Nat.lt_div_mul_add (a := n) z1
 rw [ed]
 generalize n / z = q at *
 refine ⟨by omega, by simp only [yn]; omega, fun hlt => ?_, fun hge => ⟨⟨z, ⟨z1, z2, ?_⟩, rfl⟩, fun y ⟨y1, y2, y3⟩ => ?_⟩⟩
 ·have hz9 : z * z < 1000000000 * 1000000000 := by
   have : z * z ≤ q * z := Nat.mul_le_mul_right _ (by omega)
   omega
  have := Xk hz9
  exact ⟨by simp only [yn]; omega, z * 2, ⟨⟨by omega, by omega⟩, by omega⟩, by omega⟩
 ·have : q * z ≤ z * z := Nat.mul_le_mul_right _ (by omega)
  have e : (z + 1) * (z + 1) = z * z + 2 * z + 1 := by grind
  omega
 ·obtain ⟨g1, g2⟩ := kU y1 y3 hn0
  have r1 : n / y ≤ n := Nat.div_le_self _ _
  rw [ed]
  generalize n / y = r at *
  have e2 : ((y : Int) + (r : Int)).tdiv 2 = (((y + r) / 2 : Nat) : Int) := by rw [Int.tdiv_eq_ediv_of_nonneg (by omega)]; omega
  rw [e2]
  refine ⟨by omega, by simp only [yn]; omega, by simp only [yn]; omega, by simp only [yn]; omega, fun h => ⟨⟨by omega, by omega⟩, rfl, by rw [← g1 (by omega)]⟩, fun h => ⟨(y + r) / 2, ⟨⟨(g2 (by omega)).1, by omega, (g2 (by omega)).2⟩, by omega⟩, rfl⟩⟩
theorem jL {G : List (Nat × Obj)} (hG : zo G) (a : List UInt8) (hi : ZZ a = true) (h0 : 0 < zY a) (hl : a.length ≤ 18) : zt Tryz.prog G 161 [.str a] (.tup 2 (zw [.str (Lib.itoa (yU (zY a).toNat)), .i 0])) :=
 zW (T := (oJ G).plus 145 v8) (an := jZ (zY a).toNat) mixed (zz.plus (y8 hG) (zp.mono si)) (Eq.mp (by kernel_rfl) (MI G a hi h0 hl))
theorem jB {G : List (Nat × Obj)} (hG : zo G) : zp Tryz.prog G 161 Qy := by
 intro xs ps r h hp
 unfold Qy at h
 split at h
 ·skip
  rename_i a
  cases h
  obtain ⟨q0, q1, q2, -⟩ := ZH hp
  exact weaken (ys := [.str a]) ⟨zS _, trivial⟩ (jL hG a q0 q1 q2)
 ·cases h
noncomputable def IZ (G : List (Nat × Obj)) : Tb := (((((((Wm G).plus 144 vw).plus 99 Vb).plus 116 TN).plus 143 V9).plus 148 Uy).plus 150 uq).plus 103 WV |>.plus 161 Qy
theorem Qv {G : List (Nat × Obj)} (hG : zo G) : zz Tryz.prog (IZ G) := zz.plus (zz.plus (zz.plus (zz.plus (zz.plus (zz.plus (zz.plus (zz.plus zQ (zp.mono rF)) (zp.mono Q9)) (zp.mono oB)) (zp.mono pn)) (zp.mono qK)) (zp.mono qj)) (tH hG)) (jB hG)
def KO (n : Nat) : yW :=
 .two .auto (.two .auto (.two .auto (.two .auto (.two .auto (.two .auto (.two .auto (.one (.loop Nat (fun σ z => [(5, σ.tm 5), (6, ZE (zu 1000000000 z))]) (fun σ z => []) 0 (fun σ z => 0 < z ∧ n < (z + 1) * (z + 1) ∧ z ≤ 10 ^ 40) (fun σ z => z) .auto))))))))
def nm : List AV → Option (List zn × AV)
 | [.str a] => some ([.p (ZZ a = true), .p (0 < zY a), .p (a.length ≤ 78)], .tup 2 (zw [.str (Lib.itoa (yU (zY a).toNat)), .i 0]))
 | _ => none
theorem je (G : List (Nat × Obj)) (a : List UInt8) (hi : ZZ a = true) (h0 : 0 < zY a) (hl : a.length ≤ 78) :
 let q1 := (True ∧ bA #[] = itoa (cI (yU (Int.toNat (zY a))))); let q2 := (Int.tdiv ((lZ a) + iO) (2 : Int)); let q3 := (Int.toNat q2); let q4 := (bA #[(49 : UInt8)] ++ List.replicate q3 (48 : UInt8)); let q6 := (zu 1000000000 (Int.natAbs (zY a))); let q5 := (xI q6); let q7 := (zu 1000000000 (Int.natAbs (zY q4))); let q10 := (zV q5); let q20 := (AV.xl true 1 1 (Sx.rowAt [fun (x : Nat)
 => aI (2 : Int)])); let q19 := (zV q20); ZV [AV.str a] → lN a ≤ nM ∧ zZ (Zs a != iZ) (j2 ∧ q1 ∧ kI ∧ Zs a = iZ) (bF (DB.db (iZ ≤ iZ ∧ iZ < (lZ a))) (zZ ((cI (UInt8.toNat (gD a 0 (0 : UInt8)))) == (45 : Int)) (j2 ∧ q1 ∧ kI ∧ (2 : Int) = iZ) (zZ (a == bA #[(48 : UInt8)]) (j2 ∧ (True ∧ a = itoa
 (cI (yU (Int.toNat (zY a))))) ∧ kI ∧ iZ = iZ) (ZZ a = true ∧ lN a ≤ 100000000 ∧ zZ (leB (lZ a) (18 : Int)) (ZZ a = true ∧ iZ < zY a ∧ lN a ≤ 18 ∧ j2 ∧ (True ∧ itoa (cI (yU (Int.toNat (zY a)))) = itoa (cI (yU (Int.toNat (zY a))))) ∧ kI ∧ iZ = iZ) (bF (dK ((lZ a) + iO)) (bF (dK q2) ((iZ ≤ Int.tdiv ((lZ a) + iO) (2 : Int) ∧ Int.tdiv
 ((lZ a) + iO) (2 : Int) ≤ (40 : Int)) ∧ bF (DB.db (1 + lN (List.replicate q3 (48 : UInt8)) ≤ nX)) (ZZ q4 = true ∧ lN q4 ≤ 100000000 ∧ (∃ (z : Nat), ((0 < z ∧ Int.toNat (zY a) < (z + 1) * (z + 1) ∧ z ≤ 10000000000000000000000000000000000000000) ∧ zE q5 q5 ∧ (false = true → false = true) ∧ 1 = 1 ∧ lN (zu 1000000000 z) = lN q7 ∧ ∀ (i j : Nat), i < lN q7 → j < 1 → kI ∧ gD q7 i zU.dflt = gD (zu 1000000000 z) i zU.dflt) ∧ True) ∧ ∀ (z : Nat), let q9 := (AV.xl false 1
 (lN (zu 1000000000 z)) fun i j => aI (gD (zu 1000000000 z) i zU.dflt)); let q8 := (zD Int q9); let q12 := (zV q9); let q11 := (∀ (x : Int), List.Mem x q12 → iZ ≤ x ∧ x < iB); let q14 := (zu 1000000000 (Int.toNat (zv iB q10) / Int.toNat (zv iB q12))); let q13 := (xI q14); let q15 := (zV q13); let q17 := (zu 1000000000 (Int.toNat (zv iB q12 + zv iB q15))); let
 q16 := (xI q17); let q18 := (zV q16); let q23 := (zv iB q18); let q22 := (zu 1000000000 (Int.toNat q23 / Int.toNat (zv iB q19))); let q21 := (xI q22); let q25 := (AV.agg 2 (zw [AV.v (Array.getD (Value.cells (Value.agg #[Value.bool false, Value.slice (XD Addr) 0 0])) 0 undef), AV.xl false 1 (lN (zu 1000000000 z)) fun i j => aI (gD (zu
 1000000000 z) i zU.dflt)])); let q27 := (Zn q25); let q26 := (Big.l q27); let q28 := (yE (Big.neg q27) q26); 0 < z ∧ Int.toNat (zY a) < (z + 1) * (z + 1) ∧ z ≤ 10000000000000000000000000000000000000000 → bF (zD Int q5) (bF q8 ((∀ (x : Int), List.Mem x q10 → iZ ≤ x ∧ x < iB) ∧ q11 ∧ zi q10 = zV q5 ∧ zi q12 = zV q9 ∧ lN q12 ≠ 0 ∧ lN q10 ≤ 100000000 ∧ lN q12 ≤ 100000000 ∧ bF q8 (bF (zD Int q13) (q11 ∧ (∀ (x : Int), List.Mem x q15 → iZ ≤ x ∧ x < iB) ∧ lN q12 ≤ 1000000000 ∧
 lN q15 ≤ 1000000000 ∧ bF (zD Int q16) ((∀ (x : Int), List.Mem x q18 → iZ ≤ x ∧ x < iB) ∧ (∀ (x : Int), List.Mem x (zV (AV.xl true 1 1 (Sx.rowAt [fun (x : Nat) => aI (2 : Int)]))) → iZ ≤ x ∧ x < iB) ∧ zi q18 = zV q16 ∧ zi q19 = zV q20 ∧ lN q19 ≠ 0 ∧ lN q18 ≤ 100000000 ∧ lN q19 ≤ 100000000 ∧ bF (zD Int q21) (bF q8 ((∀ (x : Int), let q24 := (zu 1000000000 (Int.toNat q23 / Int.toNat (zv iB (zV (AV.xl true 1 1 (Sx.rowAt [fun (x : Nat) => AV.v
 (Value.int .i64 (2 : Int))])))))); List.Mem x (zV (xI q24)) → iZ ≤ x ∧ x < iB) ∧ q11 ∧ zZ (leB iZ (Ar.cmpL (zV q21) q12)) (bF (yw Big q25) ((∀ (x : Int), List.Mem x q26 → iZ ≤ x ∧ x < iB) ∧ zi q26 = Big.l q27 ∧ lN q26 ≤ 100000000 ∧ j2 ∧ (True ∧ Yn q28 = itoa (cI (yU (Int.toNat (zY a))))) ∧ kI ∧ ZN q28 = iZ)) (∃ (z' : Nat), (((0 < z' ∧ Int.toNat (zY a) <
 (z' + 1) * (z' + 1) ∧ z' ≤ 10000000000000000000000000000000000000000) ∧ z' < z) ∧ zE q5 q5 ∧ (false = true → false = true) ∧ 1 = 1 ∧ lN (zu 1000000000 z') = lN q22 ∧ ∀ (i j : Nat), i < lN q22 → j < 1 → kI ∧ gD q22 i zU.dflt = gD (zu 1000000000 z') i zU.dflt) ∧ True)))))))))))))))) := by
 delta bF dK bA xI nX nM cI kI j2 lZ lN gD iZ iO iB aI
 dsimp only
 intro hb
 have e0 : (zU.dflt : Int) = 0 := rfl
 simp only [↓yZ, ↓Zj, row_one]
 have hE : Zs a = 0 := yX.2 ⟨hi, by have := (Xa a).1; omega⟩
 obtain ⟨n, hn⟩ : ∃ n : Nat, zY a = n := ⟨(zY a).toNat, by omega⟩
 have hb2 : (zY a).natAbs < 10 ^ a.length := oU hi
 rw [hn, Int.natAbs_natCast] at hb2
 have h48 : (a == [48]) = false := beq_eq_false_iff_ne.2 fun e => by
  rw [e] at h0
  exact absurd h0 (by decide)
 have h45 : ((a.getD 0 0).toNat : Int) ≠ 45 := fun e => by
  rcases ym hi with ⟨r, rfl, _, _, g3⟩ | ⟨g1, g3⟩
  ·rw [g3] at h0; omega
  ·have hm : zL a = false := by
    cases hm : zL a with
    | false => rfl
    | true =>
     match a, hm, g1 with
     | c :: r, hm, g1 =>
      have hc : c = 45 := eq_of_beq hm
      subst hc
      exact (wY g1).elim
   match a, g1, e, hm with
   | c :: r, g1, e, hm =>
    have e : (c.toNat : Int) = 45 := e
    have : c = 45 := UInt8.toNat.inj (by show c.toNat = 45; omega)
    rw [this] at hm
    cases hm
 have hl0 : 0 < a.length := Nat.pos_of_ne_zero fun e => by rw [List.eq_nil_of_length_eq_zero e] at hi; cases hi
 simp only [sS, dS, e0, xb, Y2, xK, YE, X0, xB, wx, x4, Xn, MZ, xx, ME, O9, qv]
 have ek : ((a.length : Int) + 1).tdiv 2 = (((a.length + 1) / 2 : Nat) : Int) := by rw [Int.tdiv_eq_ediv_of_nonneg (by omega)]; omega
 have hk : 10 ^ a.length ≤ 10 ^ ((a.length + 1) / 2) * 10 ^ ((a.length + 1) / 2) := by
  rw [← Nat.pow_add]
  exact Nat.pow_le_pow_right (by omega) (by omega)
 have hk2 : 10 ^ ((a.length + 1) / 2) ≤ 10 ^ 40 := Nat.pow_le_pow_right (by omega) (by omega)
 have hk3 : 0 < 10 ^ ((a.length + 1) / 2) := Nat.pow_pos (by omega)
 have hl2 := w5 (n := n) (k := 78) (Nat.lt_of_lt_of_le hb2 (Nat.pow_le_pow_right (by omega) hl))
 rw [hE, ek, Int.toNat_natCast, hn, Int.toNat_natCast, Int.natAbs_natCast]
 rw [hn] at h0
 have hn0 : 0 < n := by omega
 refine ⟨by omega, fun h => absurd rfl h, fun _ => ⟨⟨by omega, by omega⟩, fun h => absurd h h45, fun _ => zX.2 ⟨fun c => (by rw [h48] at c; cases c), fun _ => ⟨hi, by omega, fun h => ⟨hi, by omega, by omega, rfl⟩, fun h18 => ?_⟩⟩⟩⟩
 obtain ⟨t1, t2⟩ := Q4 ((a.length + 1) / 2)
 have et : ([49] ++ List.replicate ((a.length + 1) / 2) 48 : zj) = 49 :: List.replicate ((a.length + 1) / 2) 48 := rfl
 rw [et, t2, Int.natAbs_natCast]
 generalize hKK : (a.length + 1) / 2 = K at *
 generalize 10 ^ K = Z at *
 refine ⟨by simp only [yn]; omega, by simp only [yn]; omega, ⟨by omega, by omega⟩, by rw [List.length_replicate]; omega, t1, by rw [List.length_cons, List.length_replicate]; omega, ⟨Z, ⟨hk3, ?_, hk2⟩, fun h => h, rfl, fun _ _ _ _ => rfl⟩, fun z ⟨z1, z2, z3⟩ => ?_⟩
 ·have e : (Z + 1) * (Z + 1) = Z * Z + 2 * Z + 1 := by grind
  omega
 have z3 : z ≤ 10 ^ 40 := Nat.le_trans z3 (Nat.le_of_eq (by decide))
 obtain ⟨g1, g2⟩ := kU z1 z2 hn0
 have q1 : n / z ≤ n := Nat.div_le_self _ _
 have lz := w5 (n := z) (k := 41) (Nat.lt_of_le_of_lt z3 (Nat.pow_lt_pow_right (by omega) (by omega)))
 have lq := Z4 (b := 1000000000) (by omega) q1
 have lz0 : (zu 1000000000 z).length ≠ 0 := fun e => by have := XL (b := 1000000000) (by omega) e; omega
 generalize n / z = q at *
 have e2 : ((z : Int) + (q : Int)).toNat = z + q := by omega
 have e3 : Int.toNat 2 = 2 := rfl
 have hs : z + q < 10 ^ 79 := by
  have b1 : n < 10 ^ 78 := Nat.lt_of_lt_of_le hb2 (Nat.pow_le_pow_right (by omega) hl)
  have b2 : z < 10 ^ 78 := Nat.lt_of_le_of_lt z3 (Nat.pow_lt_pow_right (by omega) (by omega))
  have e : (10 : Nat) ^ 79 = 10 ^ 78 * 10 := rfl
  omega
 have ls := w5 hs
 have o2 : ZR 1000000000 [2] := .one (by omega) (by omega)
 have cl := rA (x := zu 1000000000 ((z + q) / 2)) (y := zu 1000000000 z) (Zg _).1 (Zg _).1 (Zg _).2 (Zg _).2
 rw [xx, xx] at cl
 rw [e2, e3]
 refine ⟨(Zg _).1, (Zg _).1, (Zg _).2, (Zg _).2, lz0, by omega, by omega, (Zg _).1, (Zg _).1, by omega, by omega, (Zg _).1, o2, (Zg _).2, by decide, by decide, by omega, by decide, (Zg _).1, (Zg _).1, fun hc => ?_, fun hc => ?_⟩
 ·have hle : z ≤ (z + q) / 2 := by have := cl.1 hc; omega
  have e := g1 hle
  obtain ⟨r1, r2⟩ := Zq (n := (z : Int)) (k := 41) (by omega) (by omega) (by rw [Int.natAbs_natCast]; exact Nat.lt_of_le_of_lt z3 (Nat.pow_lt_pow_right (by omega) (by omega)))
  rw [wK, cond_false, r1, r2, ← e]
  exact ⟨(Zg _).1, (Zg _).2, by omega, rfl, rfl, rfl⟩
 ·have hlt : (z + q) / 2 < z := by
   refine Nat.lt_of_not_le fun hle => ?_
   have := cl.2 (by omega)
   omega
  obtain ⟨k1, k2⟩ := g2 hlt
  exact ⟨(z + q) / 2, ⟨⟨k1, k2, by omega⟩, hlt⟩, fun h => h, rfl, fun _ _ _ _ => rfl⟩
theorem iC {G : List (Nat × Obj)} (hG : zo G) (a : List UInt8) (hi : ZZ a = true) (h0 : 0 < zY a) (hl : a.length ≤ 78) : zt Tryz.prog G 117 [.str a] (.tup 2 (zw [.str (Lib.itoa (yU (zY a).toNat)), .i 0])) :=
 zW (T := IZ G) (an := KO (zY a).toNat) mixed (Qv hG) (Eq.mp (by kernel_rfl) (je G a hi h0 hl))
theorem iu {G : List (Nat × Obj)} (hG : zo G) : zp Tryz.prog G 117 nm := by
 intro xs ps r h hp
 unfold nm at h
 split at h
 ·skip
  rename_i a
  cases h
  obtain ⟨q0, q1, q2, -⟩ := ZH hp
  exact weaken (ys := [.str a]) ⟨zS _, trivial⟩ (iC hG a q0 q1 q2)
 ·cases h
end Go.Te
