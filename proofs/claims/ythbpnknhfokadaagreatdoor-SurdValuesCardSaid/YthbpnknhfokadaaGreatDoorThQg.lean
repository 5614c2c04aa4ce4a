/- surd: Check. -/
import Derived.Test.YthbpnknhfokadaaGreatDoorThQc
import Derived.Shelf.Spec.SlicesGrow
import Derived.Test.YthbpnknhfokadaaGreatDoorSxJ
import Derived.Test.YthbpnknhfokadaaGreatDoorSxU
import Derived.Test.YthbpnknhfokadaaGreatDoorProg
import Derived.Test.YthbpnknhfokadaaGreatDoorThIf
import Derived.Test.YthbpnknhfokadaaGreatDoorThIk
import Derived.Test.YthbpnknhfokadaaGreatDoorArZ
set_option linter.unusedSimpArgs false
set_option linter.unusedVariables false
namespace Go.Te
open Go Go.Sx Go.Proofs Go.Ar
set_option maxRecDepth 100000
set_option maxHeartbeats 4000000
noncomputable def HC : Tb := (T0.plus 186 sC).body Tryz.prog [(153, .auto)]
theorem PC : zz Tryz.prog HC := zz.body mixed (zz.plus zQ m9) _
theorem kv (s : List UInt8) (h : zJ s = false) :
 Zw [AV.str s, AV.str [(47 : UInt8)]] → leB iZ (Lib.indexByte s (47 : UInt8)) = false := by
 delta iZ
 intro hb
 refine Bool.eq_false_iff.2 fun e => ?_
 obtain ⟨z, _, hlt, _, hc⟩ := (sd 47 s).1 ((Zz _ _).1 e)
 have : zJ s = true := List.any_eq_true.2 ⟨s.getD z 0, wG hlt, by rw [hc]; rfl⟩
 rw [h] at this
 cases this
def sW : List AV → Option (List zN × AV)
 | [.str s, .str p] => some ([.b (p == [47]), .p (zJ s = false)], .b false)
 | _ => none
theorem KV : zp Tryz.prog [] 108 sW := by
 intro xs ps r h hp
 unfold sW at h
 split at h
 ·rename_i s p
  cases h
  have q : (p == [47]) = true := hp _ List.mem_cons_self
  have q1 : zJ s = false := hp _ (List.mem_cons_of_mem _ List.mem_cons_self)
  obtain rfl := eq_of_beq q
  exact zW mixed PC (Eq.mp (by kernel_rfl) (kv s q1) : vR Tryz.prog HC 108 .auto [.str s, .str [47]] (.b false))
 ·cases h
structure JB (t : Tm) : Prop where
 ne : t.c ≠ 0
 bc : bq 60 t.c
 nat : ZV RM t
 nrm : nrm (mQ t.q) = (1, mQ t.q)
theorem ju {t : Tm} (h : JB t) : MK (zT t.q) ∧ nK t.q = 1 ∧ nL t.q = t.q ∧ zJ (zT t.q) = false ∧ t.q ≠ 0 := by
 obtain ⟨b1, p1, d1, n1⟩ := wo h.nat (by decide)
 obtain ⟨e, h0, h1⟩ := h.nat.mQ
 refine ⟨⟨(ZH (by decide) (by decide)).2 (b1.mono (by decide)), by rw [zm]; exact p1, ?_⟩, ?_, ?_, ?_, Rat.ne_of_gt p1⟩
 ·rw [zm]
  have a1 : x5 t.q.num ≤ 8 := xM (by decide) b1.num
  have a2 : Lib.nDigits t.q.den ≤ 8 := (Zx (by decide)).2 b1.den
  omega
 ·unfold nK
  rw [h.nrm, d1]
  exact (show mkRat 1 1 = 1 by decide +kernel)
 ·unfold nL
  rw [h.nrm]
  exact e.symm
 ·rw [e, w5]
  exact (mh _).2.2.1
noncomputable def gw (G : List (Nat × Obj)) : Tb := (((((WS G).plus 43 sY).plus 44 (YL fun s => .b (zk s))).plus 83 uY).plus 47 uO).plus 108 sW
theorem Pa {G : List (Nat × Obj)} (hG : zo G) : zz Tryz.prog (gw G) := zz.plus (zz.plus (zz.plus (zz.plus (zz.plus zQ (R7 hG)) (zp.mono SR)) (pc hG)) (pF hG)) (zp.mono KV)
def tU : List AV → Option (List zN × AV)
 | [x_t] => some ([.b (yV Tm x_t), .p (JB (Zn (α := Tm) x_t))], .i 0)
 | _ => none
theorem Om (G : List (Nat × Obj)) (t : Tm) (ht : JB t) :
 let q1 := (ByteArray.data (ByteArray.mk #[(48 : UInt8)])); let q3 := (zg (60 : Int) (wC (ze (zT (Tm.c t))))); let q2 := (!zr false q3 || zr false q3); let q4 := (ByteArray.data (ByteArray.mk #[(49 : UInt8)])); let q5 := (kI ∧ iZ = iZ); let q6 := (!zr false (zk (zT (Tm.q t))) || zr false (zk (zT (Tm.q t)))); let q8 := (bif zk (zT (Tm.q t)) then true else zT (Tm.q t) == Array.toList q1); let q7 := (!zr false q8 || zr false q8); let q9 := (kI ∧ (8 : Int) = iZ); let q11 := (bif iZ != iZ then true else
 !zT (nK (ze (zT (Tm.q t)))) == Array.toList q4); let q10 := (!zr false q11 || zr false q11); Zw [AV.agg 2 (zV.enc t)] → Yo 300 (zT (Tm.c t)) ∧ Yo 300 (zT (Tm.q t)) ∧ zZ (zT (Tm.c t) == Array.toList q1) (kI ∧ (12 : Int) = iZ) (Yo 300 (zT (Tm.c t)) ∧ bF q2 (bF q2 ((zr false q3 = true → Yo 300 (zT (Tm.q t))) ∧ bF q2 (bF (!!zg (60 : Int) (wC (ze (zT (Tm.c t)))) || zr false q3) (zZ (bif zg (60 : Int) (wC (ze (zT (Tm.c t)))) then true else zg (40 : Int) (wC (ze (zT (Tm.q t))))) (kI ∧ (4 :
 Int) = iZ) (zZ (zT (Tm.q t) == Array.toList q4) q5 (bF q6 (bF q6 (bF (!!zk (zT (Tm.q t)) || zr false (zk (zT (Tm.q t)))) (bF q7 (bF q7 (bF (!zr false q8 || bA #[(47 : UInt8)] == [(47 : UInt8)]) ((zr false q8 = true → zJ (zT (Tm.q t)) = false) ∧ bF ((!!bif zk (zT (Tm.q t)) then true else zT (Tm.q t) == Array.toList q1) || zr false q8) (zZ (bif bif zk (zT (Tm.q t)) then true else zT (Tm.q t) == Array.toList q1 then true else false) q9 (MK (zT (Tm.q t)) ∧ bF q10 (zZ
 q10 (bF q10 (bF ((!!bif iZ != iZ then true else !zT (nK (ze (zT (Tm.q t)))) == Array.toList q4) || zr false q11) (zZ (bif bif iZ != iZ then true else !zT (nK (ze (zT (Tm.q t)))) == Array.toList q4 then true else !zT (nL (ze (zT (Tm.q t)))) == zT (Tm.q t)) q9 q5))) False)))))))))))))))) := by
 delta bF bA kI iZ
 dsimp only
 intro hb
 simp only [sS, YY, yU, zm, yZ, yI, xh, Yl, dS]
 obtain ⟨q1, q2, q3, q4, q5⟩ := ju ht
 obtain ⟨b1, p1, d1, n1⟩ := wo ht.nat (by decide)
 have o1 : Yo 300 (zT t.c) := (ZH (by decide) (by decide)).2 (ht.bc.mono (by decide))
 have o2 : Yo 300 (zT t.q) := (ZH (by decide) (by decide)).2 (b1.mono (by decide))
 have hm : zk (zT t.q) = false := T5 o2.1 (by rw [zm]; exact Rat.le_of_lt p1)
 have l60 : zg 60 (wC t.c) = false := Bool.eq_false_iff.2 fun e => by
  have := (zq _ _).1 e
  have := vr (by decide) ht.bc
  omega
 have l40 : zg 40 (wC t.q) = false := Bool.eq_false_iff.2 fun e => by
  have := (zq _ _).1 e
  have := vr (by decide) b1
  omega
 have z1 : (zT t.c == [48]) = false := by rw [XE]; exact decide_eq_false ht.ne
 have z2 : (zT t.q == [48]) = false := by rw [XE]; exact decide_eq_false q5
 have z3 : (zT (1 : Rat) == [49]) = true := by rw [vg]; decide
 rw [z1, l60, l40, hm, z2, q2, q3, z3]
 refine ⟨o1, o2, zX.2 ⟨fun c => (by cases c), fun _ => ⟨o1, fun _ => o2, zX.2 ⟨fun c => (by cases c), fun _ => zX.2 ⟨fun _ => trivial, fun _ => zX.2 ⟨fun _ => ⟨fun _ => q4, zX.2 ⟨fun c => (by cases c), fun _ => ⟨q1, zX.2 ⟨fun c => ?_, fun _ => trivial⟩⟩⟩⟩, fun c => (by cases c)⟩⟩⟩⟩⟩⟩
 simp at c
theorem N8 {G : List (Nat × Obj)} (hG : zo G) (t : Tm) (ht : JB t) : zt Tryz.prog G 71 [YG t] (.i 0) :=
 zW (T := gw G) (an := .auto) mixed (Pa hG) (Eq.mp (by kernel_rfl) (Om G t ht))
theorem Og {G : List (Nat × Obj)} (hG : zo G) : zp Tryz.prog G 71 tU := by
 intro xs ps r h hp
 unfold tU at h
 split at h
 ·skip
  rename_i x_t
  cases h
  obtain ⟨q0, q1, -⟩ := ZI hp
  exact weaken (ys := [YG (Zn (α := Tm) x_t)]) ⟨ZU q0, trivial⟩ (N8 hG (Zn (α := Tm) x_t) q1)
 ·cases h
theorem Xr (x : Tm) (z : Nat → AV) : Zn (AV.agg 2 fun i => if i < 2 then zV.enc x i else z i) = x := by
 show (⟨ze (zT x.c), ze (zT x.q)⟩ : Tm) = x
 rw [zm, zm]
theorem Yb (x : Tm) (z : Nat → AV) : yV Tm (AV.agg 2 fun i => if i < 2 then zV.enc x i else z i) = true := by
 show ((true && Mi (zT x.c)) && (true && Mi (zT x.q))) = true
 rw [ut, ut]; rfl
structure Y3 (s : List Tm) : Prop where
 g : gS RM s
 len : s.length ≤ 16
 bc : ∀ x ∈ s, bq 60 x.c
def jR  : yt :=
 .two .auto (.two (.two .auto (.one (.loop Nat (fun σ z => [(0, σ.tm 0), (1, σ.tm 1), (7, σ.tm 7), (8, .i (z : Int))]) (fun σ z => []) 0 (fun σ z => 0 ≤ z) (fun σ z => 100 - z) .auto))) .auto)
def JD (s : List Tm) : yt :=
 .two .auto (.two .auto (.two (.two .auto (.one (.loop Nat (fun σ z => [(0, σ.tm 0), (11, σ.tm 11), (12, σ.tm 12), (13, .i (z : Int))]) (fun σ z => []) 0 (fun σ z => z ≤ s.length) (fun σ z => s.length - z) .auto))) .auto))
noncomputable def Io (G : List (Nat × Obj)) : Tb := ((((WS G).plus 71 tU).plus 29 Qy).plus 74 Ug).body Tryz.prog [(73, .auto)]
theorem R9 {G : List (Nat × Obj)} (hG : zo G) : zz Tryz.prog (Io G) := zz.body mixed (zz.plus (zz.plus (zz.plus zQ (Og hG)) (NC hG)) (Qk hG)) _
noncomputable def H4 (G : List (Nat × Obj)) : Tb := ((Io G).body Tryz.prog [(109, jR)]).body Tryz.prog [(72, .auto)]
theorem oS {G : List (Nat × Obj)} (hG : zo G) : zz Tryz.prog (H4 G) := zz.body mixed (zz.body mixed (R9 hG) _) _
def t8 : List AV → Option (List zN × AV)
 | [x_s] => some ([.b (zf Tm x_s), .p (Y3 (Zs (α := Tm) x_s))], .i 0)
 | _ => none
theorem iT (G : List (Nat × Obj)) (s : List Tm) (hs : Y3 s) :
 let q1 := (AV.xl false 2 (lN s) fun i j => zV.enc (gD s i zV.dflt) j); let q2 := (kI ∧ (lZ s) = (lZ s)); let q11 := (AV.fn (Fn.func 73) 0 (fun (i : Nat) => AV.junk) 1 fun i => Option.getD [AV.np (nat_lit 0) 0][i]? AV.junk); Zw [AV.xl false 2 (lN s) fun i j => zV.enc (gD s i zV.dflt) j] → zZ (zg (16 : Int) (lZ s)) (kI ∧ (4 : Int) = iZ) ((∃ (z : Nat), (z ≤ lN s ∧ zd q1 q1 ∧ zd q1 q1 ∧ q2 ∧ kI ∧ iZ = (cI z)) ∧ True) ∧ ∀ (z :
 Nat), let q4 := (gD s (Int.toNat (cI z)) zV.dflt); let q3 := (AV.agg 2 fun (i : Nat) => if 0 ≤ 0 + i ∧ 0 + i < 2 then zV.enc q4 (0 + (0 + i - 0)) else Z1 (Value.agg #[Value.string (ByteArray.mk #[]), Value.string (ByteArray.mk #[])]) (0 + i)); let q5 := (bF (dK ((cI z) + iO)) (∃ (z' : Nat), ((z' ≤ lN s ∧ lN s - z' < lN s - z) ∧ zd q1 q1 ∧ zd q1 q1 ∧ q2 ∧ kI ∧ (cI z) + iO = (cI z')) ∧ True)); let q6 := (zT (Tm.q (gD s (Int.toNat ((cI z) - iO)) zV.dflt))); let q8 :=
 (Tm.q q4); let q7 := (zT q8); let q9 := (ze q7); let q10 := (AV.xl false 2 (Int.toNat (cI z)) fun i j => zV.enc (gD s i zV.dflt) j); let q12 := (kI ∧ (cI (Int.toNat (↑z : Int))) = (cI (Int.toNat (↑z : Int)))); let q13 := (Tm.c q4); z ≤ lN s → zZ (zg (cI z) (lZ s)) (bF (DB.db (iZ ≤ (cI z) ∧ (cI z) < (lZ s))) (bF (yV Tm q3) (JB (Zn q3) ∧ zZ ((cI z) == iZ) q5 (bF (dK ((cI z) - iO)) (bF (DB.db (iZ ≤ (cI z) - iO ∧
 (cI z) - iO < (lZ s))) (OL 140 q6 q7 ∧ zZ (bif iZ != iZ then true else leB iZ (W4 (ze q6) q9)) (kI ∧ (10 : Int) = iZ) (bF (DB.db (iZ ≤ (cI z) ∧ (cI z) ≤ (lZ s))) ((∃ (z_1 : Nat), (0 ≤ z_1 ∧ zd q10 q10 ∧ zd q11 q11 ∧ q12 ∧ kI ∧ iZ = (cI z_1)) ∧ 49 = 49 ∧ 2 = 2 ∧ zT q13 = zT q13 ∧ zT q8 = zT q8) ∧ ∀ (z_1 : Nat), let q14 := (zT (Tm.q (gD s (Int.toNat (cI z_1)) zV.dflt))); 0 ≤ z_1 → zZ (zg (cI z_1) (↑(Int.toNat (cI z))
 : Int)) (bF (DB.db (iZ ≤ (cI z_1) ∧ (cI z_1) < (cI (Int.toNat (↑z : Int))))) (Kg q7 q14 ∧ zZ (bif iZ == iZ then yE q9 (ze q14) else false) (kI ∧ (7 : Int) = iZ) (bF (dK ((cI z_1) + iO)) (∃ (z' : Nat), ((0 ≤ z' ∧ 100 - z' < 100 - z_1) ∧ zd q10 q10 ∧ zd q11 q11 ∧ q12 ∧ kI ∧ (cI z_1) + iO = (cI z')) ∧ 49 = 49 ∧ 2 = 2 ∧ zT q13 = zT q13 ∧ zT q8 = zT q8)))) q5)))))))) (kI ∧ iZ = iZ)) := by
 delta bF dK cI kI lZ lN gD iZ iO
 dsimp only
 intro hb
 simp only [↓yz, ↓Zj, row_one]
 simp only [sS, YY, yU, zm, yZ, yI, xh, Yl, dS, Xr, Yb]
 have hl := hs.len
 have gd : ∀ x ∈ s, JB x := fun x hx => ⟨hs.g.ne x hx, hs.bc x hx, hs.g.nat x hx, hs.g.nrm x hx⟩
 have pw : ∀ (P : Tm → Tm → Prop), s.Pairwise P → ∀ i j, i < j → j < s.length → P (s.getD i zV.dflt) (s.getD j zV.dflt) := fun P hP i j hij hj => by
  have := (List.pairwise_iff_getElem.1 hP) i j (by omega) hj hij
  rw [List.getD_eq_getElem?_getD, List.getD_eq_getElem?_getD, List.getElem?_eq_getElem hj, List.getElem?_eq_getElem (show i < s.length by omega)]
  exact this
 refine ⟨fun h => by omega, fun _ => ⟨⟨0, Nat.zero_le _, rfl⟩, fun z hz => ⟨fun hlt => ?_, fun _ => trivial⟩⟩⟩
 have hzl : z < s.length := by omega
 have g1 := gd _ (yF hzl)
 refine ⟨⟨by omega, by omega⟩, g1, fun h0 => ⟨by simp only [yP]; omega, z + 1, ⟨by omega, by omega⟩, by omega⟩, fun h0 => ?_⟩
 have e1 : ((z : Int) - 1).toNat = z - 1 := by omega
 rw [e1]
 have g2 := gd _ (yF (show z - 1 < s.length by omega))
 have hlt2 : (s.getD (z - 1) zV.dflt).q < (s.getD z zV.dflt).q := by
  have h1 := pw Kn hs.g.le (z - 1) z (by omega) hzl
  have h2 := Nw g2.nat (pw unr hs.g.unr (z - 1) z (by omega) hzl)
  exact Rat.lt_of_le_of_ne h1 h2
 have hc : leB 0 (W4 (s.getD (z - 1) zV.dflt).q (s.getD z zV.dflt).q) = false := Bool.eq_false_iff.2 fun e => by
  have := (Zz _ _).1 e
  have := (uo _ _).2 hlt2
  omega
 rw [hc]
 have oq : ∀ x : Tm, JB x → Yo 140 (zT x.q) := fun x hx => (ZH (by decide) (by decide)).2 ((wo hx.nat (by decide)).1.mono (by decide))
 refine ⟨by simp only [yP]; omega, ⟨by omega, by omega⟩, ⟨oq _ g2, oq _ g1⟩, zX.2 ⟨fun c => (by cases c), fun _ => ⟨⟨by omega, by omega⟩, ⟨0, rfl⟩, fun k _ => ⟨fun hk => ?_, fun hk => ⟨by simp only [yP]; omega, z + 1, ⟨by omega, by omega⟩, by omega⟩⟩⟩⟩⟩
 have g3 := gd _ (yF (show k < s.length by omega))
 have hr : yE (s.getD z zV.dflt).q (s.getD k zV.dflt).q = false := (uS g1.nat g3.nat (by decide)).2 (pw unr hs.g.unr k z (by omega) hzl).symm
 rw [hr]
 exact ⟨⟨by omega, by omega⟩, Qr g1.nat g3.nat, zX.2 ⟨fun c => (by cases c), fun _ => ⟨by simp only [yP]; omega, k + 1, by omega, by omega⟩⟩⟩
theorem iD {G : List (Nat × Obj)} (hG : zo G) (s : List Tm) (hs : Y3 s) : zt Tryz.prog G 35 [Ze s] (.i 0) :=
 zW (T := H4 G) (an := JD s) mixed (oS hG) (Eq.mp (by kernel_rfl) (iT G s hs))
theorem pr {G : List (Nat × Obj)} (hG : zo G) : zp Tryz.prog G 35 t8 := by
 intro xs ps r h hp
 unfold t8 at h
 split at h
 ·skip
  rename_i x_s
  cases h
  obtain ⟨q0, q1, -⟩ := ZI hp
  exact weaken (ys := [Ze (Zs (α := Tm) x_s)]) ⟨zI q0, trivial⟩ (iD hG (Zs (α := Tm) x_s) q1)
 ·cases h
end Go.Te

namespace Go.Proofs
open Go.Shelf
def Tryz.growCut_ren : Go.Shelf.Ren := ⟨fun | 4 => 75 | n => n, fun | 22 => 26 | 25 => 49 | 3 => 3 | 4 => 4 | 9 => 9 | 20 => 20 | 0 => 0 | n => n, fun | n => n⟩
theorem Tryz.growCut : Go.Proofs.Lays8.n4 Tryz.prog Tryz.growCut_ren := {
 mixed := by kernel_rfl
 f4 := ⟨Tryz.f75.name, by decide, Tryz.func75.trans (congrArg some (by kernel_rfl))⟩
 t0 := Tryz.underlying0
 a0 := Tryz.isAgg0
 z0 := Tryz.sizeOf0
 v0 := Tryz.zeroValue0
 t3 := Tryz.underlying3
 a3 := Tryz.isAgg3
 z3 := Tryz.sizeOf3
 v3 := Tryz.zeroValue3
 t4 := Tryz.underlying4
 a4 := Tryz.isAgg4
 z4 := Tryz.sizeOf4
 v4 := Tryz.zeroValue4
 t9 := Tryz.underlying9
 a9 := Tryz.isAgg9
 z9 := Tryz.sizeOf9
 v9 := Tryz.zeroValue9
 t20 := Tryz.underlying20
 a20 := Tryz.isAgg20
 z20 := Tryz.sizeOf20
 v20 := Tryz.zeroValue20
 t22 := Tryz.underlying26
 a22 := Tryz.isAgg26
 z22 := Tryz.sizeOf26
 v22 := Tryz.zeroValue26 }
end Go.Proofs
namespace Go.Te
open Go Go.Sx Go.Proofs Go.RowKit Go.Shelf
set_option maxHeartbeats 4000000
set_option maxRecDepth 100000
def pN (nb : Nat) (bl : Nat → OB) (xs : List AV) (K : Nat → (Nat → OB) → AV → Prop) : Prop :=
 match xs with
 | [.v (.slice none 0 0), .v (.int .i64 n)] => (0 ≤ n ∧ n ≤ 100000) ∧ K (nb + 1) (upd bl nb (.arr 49 2 0 fun _ _ => .junk)) (.ns nb 0 0)
 | _ => Zd xs
theorem OD (bl : Nat → OB) (nb : Nat) : upd bl nb (.arr 49 2 (0 + 0) fun a b => if a < 0 then AV.junk else AV.junk) = upd bl nb (.arr 49 2 0 fun _ _ => .junk) := by
 congr 2
theorem Of (G : List (Nat × Obj)) : tH Tryz.prog G 75 pN := by
 refine ⟨enters_of Tryz.func75 (by kernel_rfl) rfl, ?_, ?_⟩
 ·intro nb bl xs k k' hk h
  unfold pN at h ⊢
  split at h
  ·exact ⟨h.1, hk _ _ _ h.2⟩
  ·exact h
 ·intro E nb bl S ρ w xs vs k _ hM hx h
  unfold pN at h
  split at h
  ·rename_i n
   obtain ⟨hn, hk⟩ := h
   match vs, hx with
   | [v, v2], ⟨hv, hv2, _⟩ =>
   obtain rfl := ZS hv
   obtain rfl := ZS hv2
   obtain ⟨m, rfl⟩ : ∃ m : Nat, n = m := ⟨n.toNat, by omega⟩
   have fin : ∀ (w' : World) (v' : Value), uI w w' 49 2 0 0 (.slice none 0 0) v' (fun _ _ => undef) (fun _ _ => undef) none →
     ∃ nb' bl' S' ρ' x rv, (Ending.returned v') = .returned rv ∧ k nb' bl' x ∧ Mem E nb' bl' S' ρ' w' ∧ (∀ b, S b → S' b ∧ w'.heap[b]? = w.heap[b]?) ∧ zH ρ ρ' ∧ zF w' S' ρ' x rv := fun w' v' hA => by
    obtain ⟨o, m1, m2, m3, m4⟩ := Xk (els := fun _ _ => .junk) (src := fun _ _ => .junk) hM hA (fun g hg => by cases hg) (fun i j hi => absurd hi (Nat.not_lt_zero _)) (fun i j hi => absurd hi (Nat.not_lt_zero _))
    rw [OD] at m1
    exact ⟨_, _, S, _, _, _, rfl, hk, m1, m3, m2, m4⟩
   by_cases h0 : m = 0
   ·subst h0
    refine (show Calls Tryz.prog 75 _ _ _ from Any8.slices_Grow_room Tryz.growCut none 0 0 0 w (Nat.le_refl _) (by omega) (by omega) (by omega)).mono ?_
    rintro e w' ⟨rfl, rfl⟩
    exact fin _ _ ⟨rfl, rfl, rfl, Nat.le_refl _, Nat.le_refl _, .inl ⟨none, rfl, rfl, rfl⟩⟩
   ·obtain ⟨i, hi, hz, hs, hby⟩ : ∃ i : TypeInfo, Tryz.prog.info? 49 = some i ∧ (∃ z, i.zero = some z ∧ z.cells.size = 2) ∧ i.size = 2 ∧ i.bytes = 32 := by
     refine ⟨_, rfl, ⟨_, rfl, ?_⟩, ?_, ?_⟩ <;> kernel_rfl
    obtain ⟨z, hz1, hz2⟩ := hz
    refine (show Calls Tryz.prog 75 _ _ _ from Any8.slices_Grow_grow Tryz.growCut i z hi hz1 (by omega) none 0 0 m [] w (Nat.le_refl _) (by omega) (by rw [hby]; omega) (by omega) (by simp) (fun _ => rfl) (fun a ha => by cases ha)).mono ?_
    rintro e w' ⟨rfl, rfl⟩
    refine fin _ _ ?_
    refine ⟨rfl, rfl, rfl, by simp, TT w 1, .inr ⟨w.heap.size, _, _, rfl, .inl rfl, Nat.zero_le _, ?_, heap_alloc_new w.drew _, ?_, fun b hb _ => heap_alloc_old w.drew _ hb, fun i j hi => absurd hi (Nat.not_lt_zero _), fun i j hi => absurd hi (Nat.not_lt_zero _)⟩⟩
    ·exact grownCap_le_maxLen w _ 0 49 (by unfold maxLen; omega)
    ·have hg := grownCap_ge w (0 + m) 0 49
     simp only [Array.size_append, List.size_toArray, List.length_nil, size_zeroCells, hz2, ← Nat.add_mul, Nat.zero_add]
     show (m - 0 + (grownCap w m 0 49 - m)) * 2 = grownCap w m 0 49 * 2
     rw [Nat.zero_add] at hg
     congr 1
     omega
  ·exact h.elim
end Go.Te

namespace Go.Te
open Go Go.Sx Go.Proofs Go.Ar
set_option maxRecDepth 100000
set_option maxHeartbeats 4000000
theorem Xa (l : List Tm) : Zs (AV.xl false 2 l.length fun i j => zV.enc (l.getD i zV.dflt) j) = l := uu l
theorem Y6 (l : List Tm) : zf Tm (AV.xl false 2 l.length fun i j => zV.enc (l.getD i zV.dflt) j) = true := vh l
theorem vN (s t : List Tm) : (AV.xl false 2 (s.length + t.length) fun i j => if i < s.length then (if i < 0 then AV.junk else zV.enc (s.getD i zV.dflt) j) else zV.enc (t.getD (i - s.length) zV.dflt) j) = AV.xl false 2 (s ++ t).length fun i j => zV.enc ((s ++ t).getD i zV.dflt) j := by
 rw [List.length_append]
 congr 1
 funext i j
 by_cases h : i < s.length
 ·rw [if_pos h, if_neg (Nat.not_lt_zero _), show (s ++ t).getD i zV.dflt = s.getD i zV.dflt by simp [List.getD_eq_getElem?_getD, List.getElem?_append_left h]]
 ·rw [if_neg h, show (s ++ t).getD i zV.dflt = t.getD (i - s.length) zV.dflt by simp [List.getD_eq_getElem?_getD, List.getElem?_append_right (Nat.le_of_not_lt h)]]
theorem PD : ze [45, 49] = -1 := by decide +kernel
def JI  : yt :=
 .two .auto (.two .auto (.two (.two .auto (.one (.unroll 3 .auto))) (.two .auto (.two (.two .auto (.one (.unroll 3 .auto))) .auto))))
def jL (s : List Tm) (c : Rat) : yt :=
 .two .auto (.two .auto (.two (.two .auto (.one (.loop Nat (fun σ z => [(1, σ.tm 1), (11, σ.tm 11), (12, σ.tm 12), (6, .ns σ.nb 0 (ZD c (s.take z)).length), (13, .i (z : Int))]) (fun σ z => [(σ.nb, NY 49 (ZD c (s.take z)))]) 1 (fun σ z => z ≤ s.length) (fun σ z => s.length - z) .auto))) .auto))
def Na : List AV → Option (List zN × AV)
 | [x_s, .str c] => some ([.b (zf Tm x_s), .p ((Zs (α := Tm) x_s).length ≤ 1000), .p (Yo 10 c), .p (∀ x ∈ (Zs (α := Tm) x_s), bq 100 x.c)], .tup 2 (zw [Ze (ZD (ze c) (Zs (α := Tm) x_s)), .i 0]))
 | _ => none
theorem jd (G : List (Nat × Obj)) (s : List Tm) (c : List UInt8) (hl : s.length ≤ 1000) (hc : Yo 10 c) (hs : ∀ x ∈ s, bq 100 x.c) :
 Zw [AV.xl false 2 (lN s) fun i j => zV.enc (gD s i zV.dflt) j, AV.str c] → (∃ (z : Nat), (z ≤ lN s ∧ c = c ∧ zd (AV.xl false 2 (lN s) fun i j => zV.enc (gD s i zV.dflt) j) (AV.xl false 2 (lN s) fun i j => zV.enc (gD s i zV.dflt) j) ∧ (kI ∧ (lZ s) = (lZ s)) ∧ (some (X3 Nat) = some (X3 Nat) ∧ 0 = 0 ∧ lN (ZD (ze c) (List.take z s)) = 0) ∧ kI ∧ iZ = (cI z)) ∧ lN (ZD (ze c) (List.take z s)) = 0) ∧ ∀ (z : Nat), z ≤ lN s →
 zZ (zg (cI z) (lZ s)) (bF (DB.db (iZ ≤ (cI z) ∧ (cI z) < (lZ s))) (OL 140 (zT (Tm.c (gD s (Int.toNat (cI z)) zV.dflt))) c ∧ bF (DB.db ((lN (ZD (ze c) (List.take z s)) + 1) * 32 ≤ 140737488355328)) (bF (dK ((cI z) + iO)) (∃ (z' : Nat), ((z' ≤ lN s ∧ lN s - z' < lN s - z) ∧ c = c ∧ zd (AV.xl false 2 (lN s) fun i j => zV.enc (gD s i zV.dflt) j) (AV.xl false 2 (lN s) fun i j => zV.enc (gD s i zV.dflt) j) ∧
 (kI ∧ (lZ s) = (lZ s)) ∧ (nat_lit 0 = 0 ∧ 0 = 0 ∧ lN (ZD (ze c) (List.take z' s)) = lN (ZD (ze c) (List.take z s)) + 1) ∧ kI ∧ (cI z) + iO = (cI z')) ∧ (49 : TypeId) = 49 ∧ 2 = 2 ∧ lN (ZD (ze c) (List.take z' s)) = lN (ZD (ze c) (List.take z s)) + 1 ∧ ∀ (i j : Nat), i < lN (ZD (ze c) (List.take z s)) + 1 → j < 2 → zd (if i < lN (ZD (ze c) (List.take z s)) then zV.enc (gD (ZD (ze c) (List.take z s)) i zV.dflt) j else Sx.rowAt
 [zw [AV.str (zT (ze (zT (Tm.c (gD s (Int.toNat (cI z)) zV.dflt))) * ze c)), AV.str (zT (Tm.q (gD s (Int.toNat (cI z)) zV.dflt)))]] (i - lN (ZD (ze c) (List.take z s))) j) (zV.enc (gD (ZD (ze c) (List.take z' s)) i zV.dflt) j))))) (j2 ∧ (True ∧ zd (AV.xl false 2 (lN (ZD (ze c) (List.take z s))) fun i j => zV.enc (gD (ZD (ze c) (List.take z s)) (0 + i) zV.dflt) j) (AV.xl false 2 (lN (ZD (ze c) s)) fun i j => zV.enc (gD (ZD (ze c) s) i
 zV.dflt) j)) ∧ kI ∧ iZ = iZ) := by
 delta bF dK cI kI j2 lZ lN gD iZ iO
 intro hb
 simp only [↓yz, ↓Zj, row_one]
 simp only [sS, YY, yU, zm, yZ, yI, xh, Yl, Xr, Yb, Xa, Y6, vN, PD, dS]
 have key : ∀ z, z < s.length → ZD (ze c) (s.take (z + 1)) = ZD (ze c) (s.take z) ++ [⟨(s.getD z zV.dflt).c * ze c, (s.getD z zV.dflt).q⟩] := fun z hz => by
  rw [tV hz]
  unfold ZD
  rw [List.map_append]; rfl
 have len : ∀ z, (ZD (ze c) (s.take z)).length ≤ s.length := fun z => by
  unfold ZD
  rw [List.length_map, List.length_take]; omega
 refine ⟨⟨0, ⟨Nat.zero_le _, rfl, rfl⟩, rfl⟩, fun z hz => ⟨fun hlt => ?_, fun hge => ?_⟩⟩
 ·have k := key z (by omega)
  have l1 := len z
  refine ⟨⟨by omega, by omega⟩, ⟨(ZH (by decide) (by decide)).2 ((hs _ (yF (by omega))).mono (by decide)), hc.mono (by decide)⟩, by omega, by simp only [yP]; omega, z + 1, ⟨⟨by omega, by omega⟩, by rw [k]; simp, by omega⟩, by rw [k]; simp, fun i j hi hj => ?_⟩
  rw [k]
  exact Pr _ ⟨(s.getD z zV.dflt).c * ze c, (s.getD z zV.dflt).q⟩ i j hi
 ·obtain rfl : z = s.length := by omega
  rw [List.take_length]
  exact ⟨rfl, zS _⟩
theorem If {G : List (Nat × Obj)} (hG : zo G) (s : List Tm) (c : List UInt8) (hl : s.length ≤ 1000) (hc : Yo 10 c) (hs : ∀ x ∈ s, bq 100 x.c) : zt Tryz.prog G 38 [Ze s, .str c] (.tup 2 (zw [Ze (ZD (ze c) s), .i 0])) :=
 zW (T := (WS G).plus 40 Uz) (an := jL s (ze c)) mixed (zz.plus zQ (sf hG)) (Eq.mp (by kernel_rfl) (jd G s c hl hc hs))
theorem Ik {G : List (Nat × Obj)} (hG : zo G) : zp Tryz.prog G 38 Na := by
 intro xs ps r h hp
 unfold Na at h
 split at h
 ·skip
  rename_i x_s c
  cases h
  obtain ⟨q0, q1, q2, q3, -⟩ := ZI hp
  exact weaken (ys := [Ze (Zs (α := Tm) x_s), .str c]) ⟨zI q0, zS _, trivial⟩ (If hG (Zs (α := Tm) x_s) c q1 q2 q3)
 ·cases h
noncomputable def JL (G : List (Nat × Obj)) : Tb := ((Tb.own1 ((((WS G).plus 35 t8).plus 20 TY).plus 38 Na) 75 pN).body Tryz.prog [(36, .auto), (37, JI)])
theorem Uu {G : List (Nat × Obj)} (hG : zo G) : zz Tryz.prog (JL G) := zz.body mixed (zz.own1 (zz.plus (zz.plus (zz.plus zQ (pr hG)) (pz hG)) (Ik hG)) (Of G)) _
def qk : List AV → Option (List zN × AV)
 | [x_s, x_t] => some ([.b (zf Tm x_s), .b (zf Tm x_t), .p (Y3 (Zs (α := Tm) x_s)), .p (Y3 (Zs (α := Tm) x_t)), .p (XL ((Zs (α := Tm) x_s) ++ (Zs (α := Tm) x_t)))], .tup 2 (zw [Ze (Zl ((Zs (α := Tm) x_s) ++ (Zs (α := Tm) x_t))), .i 0]))
 | _ => none
theorem l8 (G : List (Nat × Obj)) (s : List Tm) (t : List Tm) (hs : Y3 s) (ht : Y3 t) (hm : XL (s ++ t)) :
 let q1 := (AV.xl false 2 (lN s) fun i j => zV.enc (gD s i zV.dflt) j); let q2 := (AV.xl false 2 (lN t) fun i j => zV.enc (gD t i zV.dflt) j); let q3 := (AV.xl false 2 (0 + lN s + lN t) fun i j => if 0 + i < 0 + lN s then if 0 + i < 0 then AV.junk else zV.enc (gD s (0 + i - 0) zV.dflt) j else zV.enc (gD t (0 + i - (0 + lN s)) zV.dflt) j); let q4 := (Zs q3); let q5 := (Zl q4); Zw [AV.xl false 2 (lN s) fun i j => zV.enc (gD s i zV.dflt) j, AV.xl false 2 (lN t) fun i j => zV.enc
 (gD t i zV.dflt) j] → bF (zf Tm q1) (Y3 (Zs q1) ∧ bF (!zr true (iZ == iZ) || zf Tm q2) ((zr true (iZ == iZ) = true → Y3 (Zs q2)) ∧ bF (dK (iZ + (lZ s))) (bF (dK (iZ + (lZ s) + (lZ t))) ((iZ ≤ iZ + (lZ s) + (lZ t) ∧ iZ + (lZ s) + (lZ t) ≤ (100000 : Int)) ∧ bF (DB.db ((0 + lN s) * 32 ≤ 140737488355328)) (bF (DB.db ((0 + List.length
 s + lN t) * 32 ≤ 140737488355328)) (bF (zf Tm q3) (XL q4 ∧ j2 ∧ (True ∧ zd (AV.xl false 2 (lN q5) fun i j => zV.enc (gD q5 i zV.dflt) j) (AV.xl false 2 (lN (Zl (s ++ t))) fun i j => zV.enc (gD (Zl (s ++ t)) i zV.dflt) j)) ∧ kI ∧ iZ = iZ))))))) := by
 delta bF dK kI j2 lZ lN gD iZ
 dsimp only
 intro hb
 simp only [↓yz, ↓Zj, row_one]
 simp only [sS, YY, yU, zm, yZ, yI, xh, Yl, Xr, Yb, Xa, Y6, vN, PD, dS]
 have l1 := hs.len
 have l2 := ht.len
 exact ⟨hs, fun _ => ht, by simp only [yP]; omega, by simp only [yP]; omega, ⟨by omega, by omega⟩, by omega, by omega, hm, rfl⟩
theorem mU {G : List (Nat × Obj)} (hG : zo G) (s : List Tm) (t : List Tm) (hs : Y3 s) (ht : Y3 t) (hm : XL (s ++ t)) : zt Tryz.prog G 12 [Ze s, Ze t] (.tup 2 (zw [Ze (Zl (s ++ t)), .i 0])) :=
 zW (T := JL G) (an := .auto) mixed (Uu hG) (Eq.mp (by kernel_rfl) (l8 G s t hs ht hm))
theorem j6 {G : List (Nat × Obj)} (hG : zo G) : zp Tryz.prog G 12 qk := by
 intro xs ps r h hp
 unfold qk at h
 split at h
 ·skip
  rename_i x_s x_t
  cases h
  obtain ⟨q0, q1, q2, q3, q4, -⟩ := ZI hp
  exact weaken (ys := [Ze (Zs (α := Tm) x_s), Ze (Zs (α := Tm) x_t)]) ⟨zI q0, zI q1, trivial⟩ (mU hG (Zs (α := Tm) x_s) (Zs (α := Tm) x_t) q2 q3 q4)
 ·cases h
def qv : List AV → Option (List zN × AV)
 | [x_s, x_t] => some ([.b (zf Tm x_s), .b (zf Tm x_t), .p (Y3 (Zs (α := Tm) x_s)), .p (Y3 (Zs (α := Tm) x_t)), .p (XL ((Zs (α := Tm) x_s) ++ ZD (-1) (Zs (α := Tm) x_t)))], .tup 2 (zw [Ze (Zl ((Zs (α := Tm) x_s) ++ ZD (-1) (Zs (α := Tm) x_t))), .i 0]))
 | _ => none
theorem KY (G : List (Nat × Obj)) (s : List Tm) (t : List Tm) (hs : Y3 s) (ht : Y3 t) (hm : XL (s ++ ZD (-1) t)) :
 let q1 := (AV.xl false 2 (lN s) fun i j => zV.enc (gD s i zV.dflt) j); let q2 := (AV.xl false 2 (lN t) fun i j => zV.enc (gD t i zV.dflt) j); let q3 := (Zs q2); let q4 := (bA #[(45 : UInt8), (49 : UInt8)]); let q6 := (ZD (ze q4) q3); let q5 := (lZ q6); let q7 := (0 + lN s + lN q6); let q8 := (AV.xl false 2 q7 fun i j => if 0 + i < 0 + lN s then if 0 + i < 0 then AV.junk else zV.enc (gD s (0 + i - 0) zV.dflt) j else zV.enc (gD q6 (0 + i - (0 +
 lN s)) zV.dflt) j); let q9 := (Zs q8); let q10 := (Zl q9); Zw [AV.xl false 2 (lN s) fun i j => zV.enc (gD s i zV.dflt) j, AV.xl false 2 (lN t) fun i j => zV.enc (gD t i zV.dflt) j] → bF (zf Tm q1) (Y3 (Zs q1) ∧ bF (!zr true (iZ == iZ) || zf Tm q2) ((zr true (iZ == iZ) = true → Y3 q3) ∧ bF (zf Tm q2) (lN q3 ≤ 1000 ∧ Yo 10 q4 ∧ (∀ (x : Tm), List.Mem x q3 → bq 100 (Tm.c x)) ∧ bF (dK (iZ + (lZ s))) (bF (dK (iZ +
 (lZ s) + q5)) ((iZ ≤ iZ + (lZ s) + q5 ∧ iZ + (lZ s) + q5 ≤ (100000 : Int)) ∧ bF (DB.db ((0 + lN s) * 32 ≤ 140737488355328)) (bF (DB.db (q7 * 32 ≤ 140737488355328)) (zZ (zf Tm q8) (XL q9 ∧ j2 ∧ (True ∧ zd (AV.xl false 2 (lN q10) fun i j => zV.enc (gD q10 i zV.dflt) j) (AV.xl false 2 (lN (Zl (s ++ ZD (-1 : Rat) t))) fun i j => zV.enc (gD (Zl (s ++ ZD (-1 : Rat) t)) i zV.dflt) j)) ∧ kI ∧ iZ = iZ)
 False))))))) := by
 delta bF dK bA kI j2 lZ lN gD iZ
 dsimp only
 intro hb
 simp only [↓yz, ↓Zj, row_one]
 simp only [sS, YY, yU, zm, yZ, yI, xh, Yl, Xr, Yb, Xa, Y6, vN, PD, dS]
 have l1 := hs.len
 have l2 := ht.len
 have l3 : (ZD (-1) t).length = t.length := by unfold ZD; rw [List.length_map]
 refine ⟨hs, fun _ => ht, by omega, ⟨by decide +kernel, ⟨by decide +kernel, by decide +kernel⟩⟩, fun x hx => (ht.bc x hx).mono (by decide), by simp only [yP]; omega, by simp only [yP]; omega, ⟨by omega, by omega⟩, by omega, by omega, hm, rfl⟩
theorem nt {G : List (Nat × Obj)} (hG : zo G) (s : List Tm) (t : List Tm) (hs : Y3 s) (ht : Y3 t) (hm : XL (s ++ ZD (-1) t)) : zt Tryz.prog G 13 [Ze s, Ze t] (.tup 2 (zw [Ze (Zl (s ++ ZD (-1) t)), .i 0])) :=
 zW (T := JL G) (an := .auto) mixed (Uu hG) (Eq.mp (by kernel_rfl) (KY G s t hs ht hm))
theorem Jt {G : List (Nat × Obj)} (hG : zo G) : zp Tryz.prog G 13 qv := by
 intro xs ps r h hp
 unfold qv at h
 split at h
 ·skip
  rename_i x_s x_t
  cases h
  obtain ⟨q0, q1, q2, q3, q4, -⟩ := ZI hp
  exact weaken (ys := [Ze (Zs (α := Tm) x_s), Ze (Zs (α := Tm) x_t)]) ⟨zI q0, zI q1, trivial⟩ (nt hG (Zs (α := Tm) x_s) (Zs (α := Tm) x_t) q2 q3 q4)
 ·cases h
def Py (s t : List Tm) (i k : Nat) : List Tm := Z8 (s.take i) t ++ (t.take k).map (tQ (s.getD i zV.dflt))
def jv (s t : List Tm) : yt :=
 .two .auto (.two .auto (.two .auto (.two (.two .auto (.one (.loop Nat (fun σ z => [(1, σ.tm 1), (18, σ.tm 18), (19, σ.tm 19), (6, .ns σ.nb 0 (Z8 (s.take z) t).length), (20, .i (z : Int))]) (fun σ z => [(σ.nb, NY 49 (Z8 (s.take z) t))]) 1 (fun σ z => z ≤ s.length) (fun σ z => s.length - z) (.two .auto (.two .auto (.two (.one (.two .auto (.two .auto (.one (.loop Nat (fun σ z => [(1, σ.tm 1), (8, σ.tm 8), (18, σ.tm 18), (19, σ.tm 19), (20, σ.tm 20), (24, σ.tm 24), (25, σ.tm 25), (6, .ns (YO (σ.tm 6)) 0 (Py s t (AV.int (σ.tm 20)).toNat z).length), (26, .i (z : Int))]) (fun σ z => [(YO (σ.tm 6), NY 49 (Py s t (AV.int (σ.tm 20)).toNat z))]) 0 (fun σ z => z ≤ t.length) (fun σ z => t.length - z) .auto))))) .auto)))))) .auto)))
noncomputable def ic (G : List (Nat × Obj)) : Tb := ((((WS G).plus 35 t8).plus 20 TY).plus 40 Uz).body Tryz.prog [(36, .auto)]
theorem qW {G : List (Nat × Obj)} (hG : zo G) : zz Tryz.prog (ic G) := zz.body mixed (zz.plus (zz.plus (zz.plus zQ (pr hG)) (pz hG)) (sf hG)) _
def nk : List AV → Option (List zN × AV)
 | [x_s, x_t] => some ([.b (zf Tm x_s), .b (zf Tm x_t), .p (Y3 (Zs (α := Tm) x_s)), .p (Y3 (Zs (α := Tm) x_t)), .p (XL (Z8 (Zs (α := Tm) x_s) (Zs (α := Tm) x_t)))], .tup 2 (zw [Ze (Zl (Z8 (Zs (α := Tm) x_s) (Zs (α := Tm) x_t))), .i 0]))
 | _ => none
theorem jC (G : List (Nat × Obj)) (s : List Tm) (t : List Tm) (hs : Y3 s) (ht : Y3 t) (hm : XL (Z8 s t)) :
 let q1 := (AV.xl false 2 (lN s) fun i j => zV.enc (gD s i zV.dflt) j); let q2 := (AV.xl false 2 (lN t) fun i j => zV.enc (gD t i zV.dflt) j); let q3 := (kI ∧ (lZ s) = (lZ s)); let q5 := (kI ∧ (lZ t) = (lZ t)); Zw [AV.xl false 2 (lN s) fun i j => zV.enc (gD s i zV.dflt) j, AV.xl false 2 (lN t) fun i j => zV.enc (gD t i zV.dflt) j] → bF (zf Tm q1) (Y3 (Zs q1) ∧ zZ (!zr true (iZ == iZ) || zf
 Tm q2) ((zr true (iZ == iZ) = true → Y3 (Zs q2)) ∧ (∃ (z : Nat), (z ≤ lN s ∧ zd q2 q2 ∧ zd q1 q1 ∧ q3 ∧ (some (X3 Nat) = some (X3 Nat) ∧ 0 = 0 ∧ lN (Z8 (List.take z s) t) = 0) ∧ kI ∧ iZ = (cI z)) ∧ lN (Z8 (List.take z s) t) = 0) ∧ ∀ (z : Nat), let q4 := (kI ∧ (cI z) = (cI z)); let q7 := (Int.toNat (AV.int (aI (cI z)))); let q9 := (gD s (Int.toNat (cI z)) zV.dflt); let q8 := (Tm.c q9); let q10 := (Tm.q q9); let q11 := (zT q8); let q14 := (zT q10); let q18
 := (AV.xl false 2 (lN (Z8 (List.take z s) t)) fun i j => zV.enc (gD (Z8 (List.take z s) t) (0 + i) zV.dflt) j); let q19 := (Zs q18); let q20 := (Zl q19); z ≤ lN s → zZ (zg (cI z) (lZ s)) (bF (DB.db (iZ ≤ (cI z) ∧ (cI z) < (lZ s))) ((∃ (z_1 : Nat), let q6 := (Py s t q7 z_1); (z_1 ≤ lN t ∧ zd q2 q2 ∧ (nat_lit 1 = 1 ∧ 0 = 0) ∧ zd q1 q1 ∧ q3 ∧ q4 ∧ zd q2 q2 ∧ q5 ∧ (nat_lit 0 = 0 ∧ 0 = 0 ∧ lN q6 = lN (Z8 (List.take z s) t)) ∧ kI ∧ iZ = (cI z_1))
 ∧ (49 = 49 ∧ 2 = 2 ∧ lN q6 = lN (Z8 (List.take z s) t) ∧ ∀ (i j : Nat), i < lN (Z8 (List.take z s) t) → j < 2 → zd (zV.enc (gD (Z8 (List.take z s) t) i zV.dflt) j) (zV.enc (gD q6 i zV.dflt) j)) ∧ 49 = 49 ∧ 2 = 2 ∧ zT q8 = zT q8 ∧ zT q10 = zT q10) ∧ ∀ (z_1 : Nat), let q13 := (gD t (Int.toNat (cI z_1)) zV.dflt); let q12 := (zT (Tm.c q13)); let q15 := (zT (Tm.q q13)); let q16 := (Py s t q7 z_1); z_1 ≤ lN t → zZ (zg (cI z_1) (lZ t)) (bF (DB.db (iZ ≤ (cI z_1) ∧ (cI z_1)
 < (lZ t))) (OL 140 q11 q12 ∧ OL 140 q14 q15 ∧ bF (DB.db ((lN q16 + 1) * 32 ≤ 140737488355328)) (bF (dK ((cI z_1) + iO)) (∃ (z' : Nat), let q17 := (Py s t q7 z'); ((z' ≤ lN t ∧ lN t - z' < lN t - z_1) ∧ zd q2 q2 ∧ (nat_lit 1 = 1 ∧ 0 = 0) ∧ zd q1 q1 ∧ q3 ∧ q4 ∧ zd q2 q2 ∧ q5 ∧ (nat_lit 0 = 0 ∧ 0 = 0 ∧ lN q17 = lN q16 + 1) ∧ kI ∧ (cI z_1) + iO = (cI z')) ∧ ((49 : TypeId) = 49 ∧ 2 = 2 ∧ lN q17 = lN q16 + 1 ∧ ∀ (i j : Nat), i < List.length
 q16 + 1 → j < 2 → zd (if i < lN q16 then zV.enc (gD q16 i zV.dflt) j else Sx.rowAt [zw [AV.str (zT (ze q11 * ze q12)), AV.str (zT (ze q14 * ze q15))]] (i - lN q16) j) (zV.enc (gD q17 i zV.dflt) j)) ∧ 49 = 49 ∧ 2 = 2 ∧ zT q8 = zT q8 ∧ zT q10 = zT q10)))) (bF (dK ((cI z) + iO)) (∃ (z' : Nat), ((z' ≤ lN s ∧ lN s - z' < lN s - z) ∧ zd q2 q2 ∧ zd q1 q1 ∧ q3 ∧ (nat_lit 0 = 0 ∧ 0 = 0 ∧ lN (Z8 (List.take z' s) t) = lN q16) ∧ kI ∧ (↑z :
 Int) + iO = (cI z')) ∧ 49 = 49 ∧ 2 = 2 ∧ lN (Z8 (List.take z' s) t) = lN q16 ∧ ∀ (i j : Nat), i < lN q16 → j < 2 → zd (zV.enc (gD q16 i zV.dflt) j) (zV.enc (gD (Z8 (List.take z' s) t) i zV.dflt) j))))) (bF (zf Tm q18) (XL q19 ∧ j2 ∧ (True ∧ zd (AV.xl false 2 (lN q20) fun i j => zV.enc (gD q20 i zV.dflt) j) (AV.xl false 2 (lN (Zl (Z8 s t))) fun i j => zV.enc (gD (Zl (Z8 s t)) i zV.dflt) j)) ∧ kI ∧ iZ = iZ)))
 False) := by
 delta bF dK cI kI j2 lZ lN gD iZ iO aI
 dsimp only
 intro hb
 simp only [↓yz, ↓Zj, row_one]
 simp only [sS, YY, yU, zm, yZ, yI, xh, Yl, Xr, Yb, Xa, Y6, vN, PD, dS]
 have l1 := hs.len
 have l2 := ht.len
 have lm : ∀ z, (Z8 (s.take z) t).length ≤ 16 * 16 := fun z => by
  rw [um, List.length_take]
  exact Nat.mul_le_mul (by omega) l2
 have lp : ∀ z k, (Py s t z k).length ≤ 16 * 16 + 16 := fun z k => by
  unfold Py
  rw [List.length_append, List.length_map, List.length_take]
  have := lm z
  omega
 have p0 : ∀ z, Py s t z 0 = Z8 (s.take z) t := fun z => by unfold Py; simp
 have p1 : ∀ z k, k < t.length → Py s t z (k + 1) = Py s t z k ++ [tQ (s.getD z zV.dflt) (t.getD k zV.dflt)] := fun z k hk => by
  unfold Py
  rw [tV hk, List.map_append, ← List.append_assoc]; rfl
 have p2 : ∀ z, z < s.length → Z8 (s.take (z + 1)) t = Py s t z t.length := fun z hz => by
  unfold Py
  rw [tV hz, List.take_length]
  unfold Z8
  rw [List.flatMap_append]
  simp
 have okq : ∀ q : Rat, bq 60 q → Yo 140 (zT q) := fun q hq => (ZH (by decide) (by decide)).2 (hq.mono (by decide))
 have oq : ∀ x : Tm, ZV RM x → bq 60 x.q := fun x hx => (wo hx (by decide)).1.mono (by decide)
 refine ⟨hs, fun _ => ht, ⟨0, ⟨Nat.zero_le _, rfl, rfl⟩, rfl⟩, fun z hz => ⟨fun hlt => ⟨⟨by omega, by omega⟩, ⟨0, ⟨Nat.zero_le _, by rw [p0], rfl⟩, by rw [p0], fun i j _ _ => by rw [p0]; exact zS _⟩, fun k hk => ⟨fun kl => ?_, fun kg => ?_⟩⟩, fun hge => ?_⟩⟩
 ·have e := p1 z k (by omega)
  have hx := yF (l := s) (i := z) (by omega)
  have hy := yF (l := t) (i := k) (by omega)
  have := lp z k
  refine ⟨⟨by omega, by omega⟩, ⟨okq _ (hs.bc _ hx), okq _ (ht.bc _ hy)⟩, ⟨okq _ (oq _ (hs.g.nat _ hx)), okq _ (oq _ (ht.g.nat _ hy))⟩, by omega, by simp only [yP]; omega, k + 1, ⟨⟨by omega, by omega⟩, by rw [e]; simp, by omega⟩, by rw [e]; simp, fun i j hi hj => ?_⟩
  rw [e]
  exact Pr _ (tQ (s.getD z zV.dflt) (t.getD k zV.dflt)) i j hi
 ·obtain rfl : k = t.length := by omega
  have e := p2 z (by omega)
  exact ⟨by simp only [yP]; omega, z + 1, ⟨⟨by omega, by omega⟩, by rw [e], by omega⟩, by rw [e], fun i j _ _ => by rw [e]; exact zS _⟩
 ·obtain rfl : z = s.length := by omega
  rw [List.take_length]
  exact ⟨hm, rfl, zS _⟩
theorem KF {G : List (Nat × Obj)} (hG : zo G) (s : List Tm) (t : List Tm) (hs : Y3 s) (ht : Y3 t) (hm : XL (Z8 s t)) : zt Tryz.prog G 16 [Ze s, Ze t] (.tup 2 (zw [Ze (Zl (Z8 s t)), .i 0])) :=
 zW (T := ic G) (an := jv s t) mixed (qW hG) (Eq.mp (by kernel_rfl) (jC G s t hs ht hm))
theorem Iq {G : List (Nat × Obj)} (hG : zo G) : zp Tryz.prog G 16 nk := by
 intro xs ps r h hp
 unfold nk at h
 split at h
 ·skip
  rename_i x_s x_t
  cases h
  obtain ⟨q0, q1, q2, q3, q4, -⟩ := ZI hp
  exact weaken (ys := [Ze (Zs (α := Tm) x_s), Ze (Zs (α := Tm) x_t)]) ⟨zI q0, zI q1, trivial⟩ (KF hG (Zs (α := Tm) x_s) (Zs (α := Tm) x_t) q2 q3 q4)
 ·cases h
def Nj : List AV → Option (List zN × AV)
 | [x_s] => some ([.b (zf Tm x_s), .p (Y3 (Zs (α := Tm) x_s))], .tup 3 (zw [.str (if (Zs (α := Tm) x_s).length = 0 then [48] else if (Zs (α := Tm) x_s).length = 1 ∧ ((Zs (α := Tm) x_s).getD 0 zV.dflt).q = 1 then zT ((Zs (α := Tm) x_s).getD 0 zV.dflt).c else []), .b (decide ((Zs (α := Tm) x_s).length = 0 ∨ (Zs (α := Tm) x_s).length = 1 ∧ ((Zs (α := Tm) x_s).getD 0 zV.dflt).q = 1)), .i 0]))
 | _ => none
theorem jc (G : List (Nat × Obj)) (s : List Tm) (hs : Y3 s) :
 let q1 := (AV.xl false 2 (lN s) fun i j => zV.enc (gD s i zV.dflt) j); let q2 := (lN s = 0 ∨ lN s = 1 ∧ Tm.q (gD s 0 zV.dflt) = (1 : Rat)); let q3 := (!zr true ((lZ s) == iO) || zr true ((lZ s) == iO)); let q4 := (iZ ≤ iZ ∧ iZ < (lZ s)); Zw [AV.xl false 2 (lN s) fun i j => zV.enc (gD s i zV.dflt) j] → bF (zf Tm q1) (Y3 (Zs q1) ∧ zZ ((lZ s) == iZ) (3 = lN [AV.junk, AV.junk, AV.junk] ∧ ((True ∧
 bA #[(48 : UInt8)] = if lN s = 0 then [(48 : UInt8)] else if lN s = 1 ∧ Tm.q (gD s 0 zV.dflt) = (1 : Rat) then zT (Tm.c (gD s 0 zV.dflt)) else []) ∧ true = decide q2) ∧ kI ∧ iZ = iZ) (bF q3 (bF (!zr true ((lZ s) == iO) || DB.db q4) (bF q3 (bF q3 (bF q3 (bF (!(lZ s) == iO || zr true ((lZ s) == iO)) (zZ (bif (lZ s) == iO then zT (Tm.q (gD s 0
 zV.dflt)) == bA #[(49 : UInt8)] else false) (bF (DB.db q4) (3 = lN [AV.junk, AV.junk, AV.junk] ∧ ((True ∧ zT (Tm.c (gD s 0 zV.dflt)) = if lN s = 0 then [(48 : UInt8)] else if lN s = 1 ∧ Tm.q (gD s 0 zV.dflt) = (1 : Rat) then zT (Tm.c (gD s 0 zV.dflt)) else []) ∧ true = decide q2) ∧ kI ∧ iZ = iZ)) (3 = lN [AV.junk, AV.junk, AV.junk] ∧ ((True ∧ bA #[] = if lN s = 0 then [(48 : UInt8)] else if
 lN s = 1 ∧ Tm.q (gD s 0 zV.dflt) = (1 : Rat) then zT (Tm.c (gD s 0 zV.dflt)) else []) ∧ false = decide q2) ∧ kI ∧ iZ = iZ))))))))) := by
 delta bF bA kI lZ lN gD iZ iO
 dsimp only
 intro hb
 simp only [↓yz, ↓Zj, row_one]
 simp only [sS, YY, yU, zm, yZ, yI, xh, Yl, Xr, Yb, Xa, Y6, vN, PD, dS]
 rw [vg]
 refine ⟨hs, fun h => ⟨rfl, by rw [if_pos (by omega)], (decide_eq_true (.inl (by omega))).symm⟩, fun h => ⟨fun _ => ⟨by omega, by omega⟩, zX.2 ⟨fun c => ?_, fun c => ?_⟩⟩⟩
 ·simp only [Bool.and_eq_true, beq_iff_eq, decide_eq_true_eq] at c
  have c1 : s.length = 1 := by omega
  exact ⟨⟨by omega, by omega⟩, rfl, by rw [if_neg (by omega), if_pos ⟨c1, c.2⟩], (decide_eq_true (.inr ⟨c1, c.2⟩)).symm⟩
 ·have c2 : ¬(s.length = 1 ∧ (s.getD 0 zV.dflt).q = 1) := fun e => by
   rw [show ((s.length : Int) == 1) = true from beq_iff_eq.2 (by omega), Bool.true_and, decide_eq_false_iff_not] at c
   exact c e.2
  exact ⟨rfl, by rw [if_neg (by omega), if_neg c2], (decide_eq_false fun e => by rcases e with e | e; omega; exact c2 e).symm⟩
theorem Iz {G : List (Nat × Obj)} (hG : zo G) (s : List Tm) (hs : Y3 s) : zt Tryz.prog G 22 [Ze s] (.tup 3 (zw [.str (if s.length = 0 then [48] else if s.length = 1 ∧ (s.getD 0 zV.dflt).q = 1 then zT (s.getD 0 zV.dflt).c else []), .b (decide (s.length = 0 ∨ s.length = 1 ∧ (s.getD 0 zV.dflt).q = 1)), .i 0])) :=
 zW (T := (WS G).plus 35 t8) (an := .auto) mixed (zz.plus zQ (pr hG)) (Eq.mp (by kernel_rfl) (jc G s hs))
theorem Is {G : List (Nat × Obj)} (hG : zo G) : zp Tryz.prog G 22 Nj := by
 intro xs ps r h hp
 unfold Nj at h
 split at h
 ·skip
  rename_i x_s
  cases h
  obtain ⟨q0, q1, -⟩ := ZI hp
  exact weaken (ys := [Ze (Zs (α := Tm) x_s)]) ⟨zI q0, trivial⟩ (Iz hG (Zs (α := Tm) x_s) q1)
 ·cases h
structure NQ (s t : List Tm) : Prop where
 fs : Y3 s
 ft : Y3 t
 made : XL (s ++ ZD (-1) t)
 no : Zl (s ++ ZD (-1) t) = []
def QI : List AV → Option (List zN × AV)
 | [x, y] => some ([.b (zf Tm x), .b (zf Tm y), .p (NQ (Zs x) (Zs y))], .tup 2 (zw [Ze ([] : List Tm), .i 0]))
 | _ => none
theorem Jx {G : List (Nat × Obj)} (hG : zo G) : zp Tryz.prog G 13 QI := by
 intro xs ps r h hp
 unfold QI at h
 split at h
 ·rename_i x y
  cases h
  obtain ⟨q0, q1, -⟩ := ZI hp
  have q2 : NQ (Zs x) (Zs y) := hp _ (List.mem_cons_of_mem _ (List.mem_cons_of_mem _ List.mem_cons_self))
  have := nt hG (Zs x) (Zs y) q2.1 q2.2 q2.3
  rw [q2.4] at this
  exact weaken (ys := [_, _]) ⟨zI q0, zI q1, trivial⟩ this
 ·cases h
def Sw : List AV → Option (List zN × AV)
 | [x_s, x_t] => some ([.b (zf Tm x_s), .b (zf Tm x_t), .p (NQ (Zs (α := Tm) x_s) (Zs (α := Tm) x_t))], .tup 2 (zw [.i 0, .i 0]))
 | _ => none
theorem kV (G : List (Nat × Obj)) (s : List Tm) (t : List Tm) (h : NQ s t) :
 let q1 := (AV.xl false 2 (lN s) fun i j => zV.enc (gD s i zV.dflt) j); let q2 := (AV.xl false 2 (lN t) fun i j => zV.enc (gD t i zV.dflt) j); Zw [AV.xl false 2 (lN s) fun i j => zV.enc (gD s i zV.dflt) j, AV.xl false 2 (lN t) fun i j => zV.enc (gD t i zV.dflt) j] → bF (zf Tm q1) (bF (zf Tm q2) (NQ (Zs q1) (Zs q2) ∧ j2 ∧ (True ∧ kI ∧ iZ = iZ) ∧ kI ∧ iZ = iZ)) := by
 delta bF kI j2 lN gD iZ
 dsimp only
 intro hb
 simp only [↓yz, ↓Zj, row_one]
 simp only [sS, YY, yU, zm, yZ, yI, xh, Yl, Xr, Yb, Xa, Y6, vN, PD, dS]
 exact ⟨h, rfl⟩
theorem iP {G : List (Nat × Obj)} (hG : zo G) (s : List Tm) (t : List Tm) (h : NQ s t) : zt Tryz.prog G 23 [Ze s, Ze t] (.tup 2 (zw [.i 0, .i 0])) :=
 zW (T := ((WS G).plus 13 QI).body Tryz.prog [(41, .auto)]) (an := .auto) mixed (zz.body mixed (zz.plus zQ (Jx hG)) _) (Eq.mp (by kernel_rfl) (kV G s t h))
theorem N3 {G : List (Nat × Obj)} (hG : zo G) : zp Tryz.prog G 23 Sw := by
 intro xs ps r h hp
 unfold Sw at h
 split at h
 ·skip
  rename_i x_s x_t
  cases h
  obtain ⟨q0, q1, q2, -⟩ := ZI hp
  exact weaken (ys := [Ze (Zs (α := Tm) x_s), Ze (Zs (α := Tm) x_t)]) ⟨zI q0, zI q1, trivial⟩ (iP hG (Zs (α := Tm) x_s) (Zs (α := Tm) x_t) q2)
 ·cases h
end Go.Te

namespace Go.Te
open Go Go.Sx Go.Proofs Go.Ar Go.Lib
set_option maxRecDepth 100000
set_option maxHeartbeats 4000000
theorem Lz  :
 True := by
 trivial
theorem MI  :
 True := by
 trivial
theorem L9  :
 True := by
 trivial
theorem MH  :
 True := by
 trivial
theorem lW  :
 True := by
 trivial
theorem ky  :
 True := by
 trivial
theorem kz  :
 True := by
 trivial
theorem Lc  :
 True := by
 trivial
theorem lu  :
 True := by
 trivial
theorem lO  :
 True := by
 trivial
theorem kt  :
 True := by
 trivial
theorem LS  :
 True := by
 trivial
theorem kQ  :
 True := by
 trivial
theorem kD  :
 True := by
 trivial
theorem kL  :
 True := by
 trivial
theorem kK  :
 True := by
 trivial
theorem l6  :
 True := by
 trivial
theorem kY  :
 True := by
 trivial
theorem KU  :
 True := by
 trivial
theorem L3  :
 True := by
 trivial
theorem Ll  :
 True := by
 trivial
theorem MD  :
 True := by
 trivial
theorem LA  :
 True := by
 trivial
theorem M0  :
 True := by
 trivial
theorem lB  :
 True := by
 trivial
theorem kH  :
 True := by
 trivial
def sL : List AV → Option (List zN × AV)
 | [.str s, .v (.int .i64 k)] => some ([.b (s == [48]), .p (0 ≤ k ∧ k ≤ 40)], .str (List.replicate k.toNat 48))
 | _ => none
theorem O3 : zp Tryz.prog [] 116 sL := by
 intro xs ps r h hp
 unfold sL at h
 split at h
 ·rename_i s k
  cases h
  have q : (s == [48]) = true := hp _ List.mem_cons_self
  have q1 : 0 ≤ k ∧ k ≤ 40 := hp _ (List.mem_cons_of_mem _ List.mem_cons_self)
  obtain rfl := eq_of_beq q
  obtain ⟨n, rfl⟩ : ∃ n : Nat, k = n := ⟨k.toNat, by omega⟩
  by_cases hs : n ≤ 14
  ·exact Kj _ _ _ rfl fun c hc => by
    rcases List.mem_cons.1 hc with rfl | hc
    ·exact q
    ·rw [List.mem_singleton.1 hc]
     show (0 : Int) ≤ n ∧ (n : Int) ≤ 14
     omega
  ·obtain ⟨m, rfl⟩ : ∃ m, n = m + 15 := ⟨n - 15, by omega⟩
   match m, q1 with
   | 0, _ => exact yd rfl (Eq.mp (by kernel_rfl) Lz)
   | 1, _ => exact yd rfl (Eq.mp (by kernel_rfl) MI)
   | 2, _ => exact yd rfl (Eq.mp (by kernel_rfl) L9)
   | 3, _ => exact yd rfl (Eq.mp (by kernel_rfl) MH)
   | 4, _ => exact yd rfl (Eq.mp (by kernel_rfl) lW)
   | 5, _ => exact yd rfl (Eq.mp (by kernel_rfl) ky)
   | 6, _ => exact yd rfl (Eq.mp (by kernel_rfl) kz)
   | 7, _ => exact yd rfl (Eq.mp (by kernel_rfl) Lc)
   | 8, _ => exact yd rfl (Eq.mp (by kernel_rfl) lu)
   | 9, _ => exact yd rfl (Eq.mp (by kernel_rfl) lO)
   | 10, _ => exact yd rfl (Eq.mp (by kernel_rfl) kt)
   | 11, _ => exact yd rfl (Eq.mp (by kernel_rfl) LS)
   | 12, _ => exact yd rfl (Eq.mp (by kernel_rfl) kQ)
   | 13, _ => exact yd rfl (Eq.mp (by kernel_rfl) kD)
   | 14, _ => exact yd rfl (Eq.mp (by kernel_rfl) kL)
   | 15, _ => exact yd rfl (Eq.mp (by kernel_rfl) kK)
   | 16, _ => exact yd rfl (Eq.mp (by kernel_rfl) l6)
   | 17, _ => exact yd rfl (Eq.mp (by kernel_rfl) kY)
   | 18, _ => exact yd rfl (Eq.mp (by kernel_rfl) KU)
   | 19, _ => exact yd rfl (Eq.mp (by kernel_rfl) L3)
   | 20, _ => exact yd rfl (Eq.mp (by kernel_rfl) Ll)
   | 21, _ => exact yd rfl (Eq.mp (by kernel_rfl) MD)
   | 22, _ => exact yd rfl (Eq.mp (by kernel_rfl) LA)
   | 23, _ => exact yd rfl (Eq.mp (by kernel_rfl) M0)
   | 24, _ => exact yd rfl (Eq.mp (by kernel_rfl) lB)
   | 25, _ => exact yd rfl (Eq.mp (by kernel_rfl) kH)
   | m + 26, q1 => exact absurd q1.2 (by omega)
 ·cases h
end Go.Te

namespace Go.Te
open Go Go.Sx Go.Proofs Go.Ar Go.Lib
set_option maxRecDepth 100000
set_option maxHeartbeats 4000000
def jJ (n : Nat) : yt :=
 .two .auto (.two .auto (.two .auto (.two .auto (.two (.one (.loop Nat (fun σ z => [(4, σ.tm 4), (6, .i (z : Int))]) (fun σ z => []) 0 (fun σ z => 0 < z ∧ z ≤ 2000000000) (fun σ z => 4000000000 - z) .auto)) (.one (.loop Nat (fun σ z => [(4, σ.tm 4), (6, .i (z : Int))]) (fun σ z => []) 0 (fun σ z => 0 < z ∧ z ≤ 2000000000 ∧ n < (z + 1) * (z + 1)) (fun σ z => z) .auto))))))
def QJ : List AV → Option (List zN × AV)
 | [.str a] => some ([.p (Zy a = true), .p (0 < zY a), .p (a.length ≤ 18)], .tup 2 (zw [.str (Lib.itoa (yR (zY a).toNat)), .i 0]))
 | _ => none
theorem L8 (G : List (Nat × Obj)) (a : List UInt8) (hi : Zy a = true) (h0 : 0 < zY a) (hl : a.length ≤ 18) :
 Zw [AV.str a] → bF (Zy a) (lN a ≤ 18 ∧ (∃ (z : Nat), ((0 < z ∧ z ≤ 2000000000) ∧ (kI ∧ zY a = zY a) ∧ kI ∧ iO = (cI z)) ∧ True) ∧ ∀ (z : Nat), 0 < z ∧ z ≤ 2000000000 → bF (DB.db ((cI z) ≠ iZ)) (bF (dK (Int.tdiv (zY a) (cI z))) (zZ (zg (cI z) (Int.tdiv (zY a) (cI z))) (bF (dK ((cI z) * (2 : Int))) (∃ (z' : Nat), (((0 < z' ∧ z' ≤ 2000000000) ∧ 4000000000 - z' < 4000000000 - z) ∧ (kI ∧ zY a = zY a) ∧ kI ∧ (cI z) * (2 :
 Int) = (cI z')) ∧ True)) ((∃ (z_1 : Nat), ((0 < z_1 ∧ z_1 ≤ 2000000000 ∧ Int.toNat (zY a) < (z_1 + 1) * (z_1 + 1)) ∧ (kI ∧ zY a = zY a) ∧ kI ∧ (cI z) = (cI z_1)) ∧ True) ∧ ∀ (z : Nat), 0 < z ∧ z ≤ 2000000000 ∧ Int.toNat (zY a) < (z + 1) * (z + 1) → bF (DB.db ((cI z) ≠ iZ)) (bF (dK (Int.tdiv (zY a) (cI z))) (bF (dK ((cI z) + Int.tdiv (zY a) (cI z))) (bF (dK (Int.tdiv ((cI z) + Int.tdiv (zY a) (cI z)) (2 : Int))) (zZ (leB (cI z) (Int.tdiv
 ((cI z) + Int.tdiv (zY a) (cI z)) (2 : Int))) ((iN ≤ (cI z) ∧ (cI z) ≤ iX) ∧ j2 ∧ (True ∧ itoa (cI z) = itoa (cI (yR (Int.toNat (zY a))))) ∧ kI ∧ iZ = iZ) (∃ (z' : Nat), (((0 < z' ∧ z' ≤ 2000000000 ∧ Int.toNat (zY a) < (z' + 1) * (z' + 1)) ∧ z' < z) ∧ (kI ∧ zY a = zY a) ∧ kI ∧ Int.tdiv ((cI z) + Int.tdiv (zY a) (cI z)) (2 : Int) = (cI z')) ∧ True))))))))) := by
 delta bF dK cI kI j2 lN iZ iO iX iN
 intro hb
 simp only [↓yz, ↓Zj, row_one]
 simp only [sS, dS]
 obtain ⟨n, hn⟩ : ∃ n : Nat, zY a = n := ⟨(zY a).toNat, by omega⟩
 have hb2 : (zY a).natAbs < 10 ^ 18 := Nat.lt_of_lt_of_le (Oq hi) (Nat.pow_le_pow_right (by omega) hl)
 rw [show 10 ^ 18 = 1000000000000000000 from by decide] at hb2
 rw [hn] at hb2 h0 ⊢
 rw [Int.natAbs_natCast] at hb2
 rw [Int.toNat_natCast, hi]
 have hn0 : 0 < n := by omega
 have ed : ∀ z : Nat, (n : Int).tdiv (z : Int) = ((n / z : Nat) : Int) := fun z => by rw [Int.tdiv_eq_ediv_of_nonneg (by omega), Int.natCast_ediv]
 refine zX.2 ⟨fun _ => ⟨hl, ⟨1, by omega, rfl⟩, fun z ⟨z1, z2⟩ => ?_⟩, fun c => (by cases c)⟩
 have q1 : n / z ≤ n := Nat.div_le_self _ _
 have q2 := Nat.div_mul_le_self n z
 have q3 := Nat.lt_div_mul_add (a := n) z1
 rw [ed]
 generalize n / z = q at *
 refine ⟨by omega, by simp only [yP]; omega, fun hlt => ?_, fun hge => ⟨⟨z, ⟨z1, z2, ?_⟩, rfl⟩, fun y ⟨y1, y2, y3⟩ => ?_⟩⟩
 ·have hz9 : z * z < 1000000000 * 1000000000 := by
   have : z * z ≤ q * z := Nat.mul_le_mul_right _ (by omega)
   omega
  have := X2 hz9
  exact ⟨by simp only [yP]; omega, z * 2, ⟨⟨by omega, by omega⟩, by omega⟩, by omega⟩
 ·have : q * z ≤ z * z := Nat.mul_le_mul_right _ (by omega)
  have e : (z + 1) * (z + 1) = z * z + 2 * z + 1 := by grind
  omega
 ·obtain ⟨g1, g2⟩ := Kl y1 y3 hn0
  have r1 : n / y ≤ n := Nat.div_le_self _ _
  rw [ed]
  generalize n / y = r at *
  have e2 : ((y : Int) + (r : Int)).tdiv 2 = (((y + r) / 2 : Nat) : Int) := by rw [Int.tdiv_eq_ediv_of_nonneg (by omega)]; omega
  rw [e2]
  refine ⟨by omega, by simp only [yP]; omega, by simp only [yP]; omega, by simp only [yP]; omega, fun h => ⟨⟨by omega, by omega⟩, rfl, by rw [← g1 (by omega)]⟩, fun h => ⟨(y + r) / 2, ⟨⟨(g2 (by omega)).1, by omega, (g2 (by omega)).2⟩, by omega⟩, rfl⟩⟩
theorem io {G : List (Nat × Obj)} (hG : zo G) (a : List UInt8) (hi : Zy a = true) (h0 : 0 < zY a) (hl : a.length ≤ 18) : zt Tryz.prog G 161 [.str a] (.tup 2 (zw [.str (Lib.itoa (yR (zY a).toNat)), .i 0])) :=
 zW (T := (ni G).plus 145 Vx) (an := jJ (zY a).toNat) mixed (zz.plus (Yy hG) (zp.mono sH)) (Eq.mp (by kernel_rfl) (L8 G a hi h0 hl))
theorem JO {G : List (Nat × Obj)} (hG : zo G) : zp Tryz.prog G 161 QJ := by
 intro xs ps r h hp
 unfold QJ at h
 split at h
 ·skip
  rename_i a
  cases h
  obtain ⟨q0, q1, q2, -⟩ := ZI hp
  exact weaken (ys := [.str a]) ⟨zS _, trivial⟩ (io hG a q0 q1 q2)
 ·cases h
noncomputable def IR (G : List (Nat × Obj)) : Tb := (((((((WS G).plus 144 vV).plus 99 uT).plus 116 sL).plus 143 uw).plus 148 uH).plus 150 Ud).plus 103 WO |>.plus 161 QJ
theorem Qh {G : List (Nat × Obj)} (hG : zo G) : zz Tryz.prog (IR G) := zz.plus (zz.plus (zz.plus (zz.plus (zz.plus (zz.plus (zz.plus (zz.plus zQ (zp.mono re)) (zp.mono Pp)) (zp.mono O3)) (zp.mono pE)) (zp.mono QM)) (zp.mono QN)) (TI hG)) (JO hG)
def J4 (n : Nat) : yt :=
 .two .auto (.two .auto (.two .auto (.two .auto (.two .auto (.two .auto (.two .auto (.one (.loop Nat (fun σ z => [(5, σ.tm 5), (6, Ze (zU 1000000000 z))]) (fun σ z => []) 0 (fun σ z => 0 < z ∧ n < (z + 1) * (z + 1) ∧ z ≤ 10 ^ 40) (fun σ z => z) .auto))))))))
def NU : List AV → Option (List zN × AV)
 | [.str a] => some ([.p (Zy a = true), .p (0 < zY a), .p (a.length ≤ 78)], .tup 2 (zw [.str (Lib.itoa (yR (zY a).toNat)), .i 0]))
 | _ => none
theorem ja (G : List (Nat × Obj)) (a : List UInt8) (hi : Zy a = true) (h0 : 0 < zY a) (hl : a.length ≤ 78) :
 let q1 := (True ∧ bA #[] = itoa (cI (yR (Int.toNat (zY a))))); let q2 := (Int.tdiv ((lZ a) + iO) (2 : Int)); let q3 := (Int.toNat q2); let q4 := (bA #[(49 : UInt8)] ++ List.replicate q3 (48 : UInt8)); let q6 := (zU 1000000000 (Int.natAbs (zY a))); let q5 := (xI q6); let q7 := (zU 1000000000 (Int.natAbs (zY q4))); let q10 := (zu q5); let q20 := (AV.xl true 1 1 (Sx.rowAt [fun (x : Nat)
 => aI (2 : Int)])); let q19 := (zu q20); Zw [AV.str a] → lN a ≤ nM ∧ zZ (ZR a != iZ) (j2 ∧ q1 ∧ kI ∧ ZR a = iZ) (bF (DB.db (iZ ≤ iZ ∧ iZ < (lZ a))) (zZ ((cI (UInt8.toNat (gD a 0 (0 : UInt8)))) == (45 : Int)) (j2 ∧ q1 ∧ kI ∧ (2 : Int) = iZ) (zZ (a == bA #[(48 : UInt8)]) (j2 ∧ (True ∧ a = itoa
 (cI (yR (Int.toNat (zY a))))) ∧ kI ∧ iZ = iZ) (Zy a = true ∧ lN a ≤ 100000000 ∧ zZ (leB (lZ a) (18 : Int)) (Zy a = true ∧ iZ < zY a ∧ lN a ≤ 18 ∧ j2 ∧ (True ∧ itoa (cI (yR (Int.toNat (zY a)))) = itoa (cI (yR (Int.toNat (zY a))))) ∧ kI ∧ iZ = iZ) (bF (dK ((lZ a) + iO)) (bF (dK q2) ((iZ ≤ Int.tdiv ((lZ a) + iO) (2 : Int) ∧ Int.tdiv
 ((lZ a) + iO) (2 : Int) ≤ (40 : Int)) ∧ bF (DB.db (1 + lN (List.replicate q3 (48 : UInt8)) ≤ nX)) (Zy q4 = true ∧ lN q4 ≤ 100000000 ∧ (∃ (z : Nat), ((0 < z ∧ Int.toNat (zY a) < (z + 1) * (z + 1) ∧ z ≤ 10000000000000000000000000000000000000000) ∧ zd q5 q5 ∧ (false = true → false = true) ∧ 1 = 1 ∧ lN (zU 1000000000 z) = lN q7 ∧ ∀ (i j : Nat), i < lN q7 → j < 1 → kI ∧ gD q7 i zV.dflt = gD (zU 1000000000 z) i zV.dflt) ∧ True) ∧ ∀ (z : Nat), let q9 := (AV.xl false 1
 (lN (zU 1000000000 z)) fun i j => aI (gD (zU 1000000000 z) i zV.dflt)); let q8 := (zf Int q9); let q12 := (zu q9); let q11 := (∀ (x : Int), List.Mem x q12 → iZ ≤ x ∧ x < iB); let q14 := (zU 1000000000 (Int.toNat (zv iB q10) / Int.toNat (zv iB q12))); let q13 := (xI q14); let q15 := (zu q13); let q17 := (zU 1000000000 (Int.toNat (zv iB q12 + zv iB q15))); let
 q16 := (xI q17); let q18 := (zu q16); let q23 := (zv iB q18); let q22 := (zU 1000000000 (Int.toNat q23 / Int.toNat (zv iB q19))); let q21 := (xI q22); let q25 := (AV.agg 2 (zw [AV.v (Array.getD (Value.cells (Value.agg #[Value.bool false, Value.slice (X3 Addr) 0 0])) 0 undef), AV.xl false 1 (lN (zU 1000000000 z)) fun i j => aI (gD (zU
 1000000000 z) i zV.dflt)])); let q27 := (Zn q25); let q26 := (Big.l q27); let q28 := (yC (Big.neg q27) q26); 0 < z ∧ Int.toNat (zY a) < (z + 1) * (z + 1) ∧ z ≤ 10000000000000000000000000000000000000000 → bF (zf Int q5) (bF q8 ((∀ (x : Int), List.Mem x q10 → iZ ≤ x ∧ x < iB) ∧ q11 ∧ zi q10 = zu q5 ∧ zi q12 = zu q9 ∧ lN q12 ≠ 0 ∧ lN q10 ≤ 100000000 ∧ lN q12 ≤ 100000000 ∧ bF q8 (bF (zf Int q13) (q11 ∧ (∀ (x : Int), List.Mem x q15 → iZ ≤ x ∧ x < iB) ∧ lN q12 ≤ 1000000000 ∧
 lN q15 ≤ 1000000000 ∧ bF (zf Int q16) ((∀ (x : Int), List.Mem x q18 → iZ ≤ x ∧ x < iB) ∧ (∀ (x : Int), List.Mem x (zu (AV.xl true 1 1 (Sx.rowAt [fun (x : Nat) => aI (2 : Int)]))) → iZ ≤ x ∧ x < iB) ∧ zi q18 = zu q16 ∧ zi q19 = zu q20 ∧ lN q19 ≠ 0 ∧ lN q18 ≤ 100000000 ∧ lN q19 ≤ 100000000 ∧ bF (zf Int q21) (bF q8 ((∀ (x : Int), let q24 := (zU 1000000000 (Int.toNat q23 / Int.toNat (zv iB (zu (AV.xl true 1 1 (Sx.rowAt [fun (x : Nat) => AV.v
 (Value.int .i64 (2 : Int))])))))); List.Mem x (zu (xI q24)) → iZ ≤ x ∧ x < iB) ∧ q11 ∧ zZ (leB iZ (Ar.cmpL (zu q21) q12)) (bF (yV Big q25) ((∀ (x : Int), List.Mem x q26 → iZ ≤ x ∧ x < iB) ∧ zi q26 = Big.l q27 ∧ lN q26 ≤ 100000000 ∧ j2 ∧ (True ∧ Ym q28 = itoa (cI (yR (Int.toNat (zY a))))) ∧ kI ∧ ZM q28 = iZ)) (∃ (z' : Nat), (((0 < z' ∧ Int.toNat (zY a) <
 (z' + 1) * (z' + 1) ∧ z' ≤ 10000000000000000000000000000000000000000) ∧ z' < z) ∧ zd q5 q5 ∧ (false = true → false = true) ∧ 1 = 1 ∧ lN (zU 1000000000 z') = lN q22 ∧ ∀ (i j : Nat), i < lN q22 → j < 1 → kI ∧ gD q22 i zV.dflt = gD (zU 1000000000 z') i zV.dflt) ∧ True)))))))))))))))) := by
 delta bF dK bA xI nX nM cI kI j2 lZ lN gD iZ iO iB aI
 dsimp only
 intro hb
 have e0 : (zV.dflt : Int) = 0 := rfl
 simp only [↓yz, ↓Zj, row_one]
 have hE : ZR a = 0 := yW.2 ⟨hi, by have := (wv a).1; omega⟩
 obtain ⟨n, hn⟩ : ∃ n : Nat, zY a = n := ⟨(zY a).toNat, by omega⟩
 have hb2 : (zY a).natAbs < 10 ^ a.length := Oq hi
 rw [hn, Int.natAbs_natCast] at hb2
 have h48 : (a == [48]) = false := beq_eq_false_iff_ne.2 fun e => by
  rw [e] at h0
  exact absurd h0 (by decide)
 have h45 : ((a.getD 0 0).toNat : Int) ≠ 45 := fun e => by
  rcases yK hi with ⟨r, rfl, _, _, g3⟩ | ⟨g1, g3⟩
  ·rw [g3] at h0; omega
  ·have hm : zk a = false := by
    cases hm : zk a with
    | false => rfl
    | true =>
     match a, hm, g1 with
     | c :: r, hm, g1 =>
      have hc : c = 45 := eq_of_beq hm
      subst hc
      exact (wT g1).elim
   match a, g1, e, hm with
   | c :: r, g1, e, hm =>
    have e : (c.toNat : Int) = 45 := e
    have : c = 45 := UInt8.toNat.inj (by show c.toNat = 45; omega)
    rw [this] at hm
    cases hm
 have hl0 : 0 < a.length := Nat.pos_of_ne_zero fun e => by rw [List.eq_nil_of_length_eq_zero e] at hi; cases hi
 simp only [sS, dS, e0, x3, xZ, xF, Yd, X5, XV, wy, XU, Xd, Md, xr, Lh, Nv, Qe]
 have ek : ((a.length : Int) + 1).tdiv 2 = (((a.length + 1) / 2 : Nat) : Int) := by rw [Int.tdiv_eq_ediv_of_nonneg (by omega)]; omega
 have hk : 10 ^ a.length ≤ 10 ^ ((a.length + 1) / 2) * 10 ^ ((a.length + 1) / 2) := by
  rw [← Nat.pow_add]
  exact Nat.pow_le_pow_right (by omega) (by omega)
 have hk2 : 10 ^ ((a.length + 1) / 2) ≤ 10 ^ 40 := Nat.pow_le_pow_right (by omega) (by omega)
 have hk3 : 0 < 10 ^ ((a.length + 1) / 2) := Nat.pow_pos (by omega)
 have hl2 := WY (n := n) (k := 78) (Nat.lt_of_lt_of_le hb2 (Nat.pow_le_pow_right (by omega) hl))
 rw [hE, ek, Int.toNat_natCast, hn, Int.toNat_natCast, Int.natAbs_natCast]
 rw [hn] at h0
 have hn0 : 0 < n := by omega
 refine ⟨by omega, fun h => absurd rfl h, fun _ => ⟨⟨by omega, by omega⟩, fun h => absurd h h45, fun _ => zX.2 ⟨fun c => (by rw [h48] at c; cases c), fun _ => ⟨hi, by omega, fun h => ⟨hi, by omega, by omega, rfl⟩, fun h18 => ?_⟩⟩⟩⟩
 obtain ⟨t1, t2⟩ := pd ((a.length + 1) / 2)
 have et : ([49] ++ List.replicate ((a.length + 1) / 2) 48 : zj) = 49 :: List.replicate ((a.length + 1) / 2) 48 := rfl
 rw [et, t2, Int.natAbs_natCast]
 generalize hKK : (a.length + 1) / 2 = K at *
 generalize 10 ^ K = Z at *
 refine ⟨by simp only [yP]; omega, by simp only [yP]; omega, ⟨by omega, by omega⟩, by rw [List.length_replicate]; omega, t1, by rw [List.length_cons, List.length_replicate]; omega, ⟨Z, ⟨hk3, ?_, hk2⟩, fun h => h, rfl, fun _ _ _ _ => rfl⟩, fun z ⟨z1, z2, z3⟩ => ?_⟩
 ·have e : (Z + 1) * (Z + 1) = Z * Z + 2 * Z + 1 := by grind
  omega
 have z3 : z ≤ 10 ^ 40 := Nat.le_trans z3 (Nat.le_of_eq (by decide))
 obtain ⟨g1, g2⟩ := Kl z1 z2 hn0
 have q1 : n / z ≤ n := Nat.div_le_self _ _
 have lz := WY (n := z) (k := 41) (Nat.lt_of_le_of_lt z3 (Nat.pow_lt_pow_right (by omega) (by omega)))
 have lq := Z7 (b := 1000000000) (by omega) q1
 have lz0 : (zU 1000000000 z).length ≠ 0 := fun e => by have := Xg (b := 1000000000) (by omega) e; omega
 generalize n / z = q at *
 have e2 : ((z : Int) + (q : Int)).toNat = z + q := by omega
 have e3 : Int.toNat 2 = 2 := rfl
 have hs : z + q < 10 ^ 79 := by
  have b1 : n < 10 ^ 78 := Nat.lt_of_lt_of_le hb2 (Nat.pow_le_pow_right (by omega) hl)
  have b2 : z < 10 ^ 78 := Nat.lt_of_le_of_lt z3 (Nat.pow_lt_pow_right (by omega) (by omega))
  have e : (10 : Nat) ^ 79 = 10 ^ 78 * 10 := rfl
  omega
 have ls := WY hs
 have o2 : Zp 1000000000 [2] := .one (by omega) (by omega)
 have cl := rX (x := zU 1000000000 ((z + q) / 2)) (y := zU 1000000000 z) (Zf _).1 (Zf _).1 (Zf _).2 (Zf _).2
 rw [xr, xr] at cl
 rw [e2, e3]
 refine ⟨(Zf _).1, (Zf _).1, (Zf _).2, (Zf _).2, lz0, by omega, by omega, (Zf _).1, (Zf _).1, by omega, by omega, (Zf _).1, o2, (Zf _).2, by decide, by decide, by omega, by decide, (Zf _).1, (Zf _).1, fun hc => ?_, fun hc => ?_⟩
 ·have hle : z ≤ (z + q) / 2 := by have := cl.1 hc; omega
  have e := g1 hle
  obtain ⟨r1, r2⟩ := ZP (n := (z : Int)) (k := 41) (by omega) (by omega) (by rw [Int.natAbs_natCast]; exact Nat.lt_of_le_of_lt z3 (Nat.pow_lt_pow_right (by omega) (by omega)))
  rw [wi, cond_false, r1, r2, ← e]
  exact ⟨(Zf _).1, (Zf _).2, by omega, rfl, rfl, rfl⟩
 ·have hlt : (z + q) / 2 < z := by
   refine Nat.lt_of_not_le fun hle => ?_
   have := cl.2 (by omega)
   omega
  obtain ⟨k1, k2⟩ := g2 hlt
  exact ⟨(z + q) / 2, ⟨⟨k1, k2, by omega⟩, hlt⟩, fun h => h, rfl, fun _ _ _ _ => rfl⟩
theorem I5 {G : List (Nat × Obj)} (hG : zo G) (a : List UInt8) (hi : Zy a = true) (h0 : 0 < zY a) (hl : a.length ≤ 78) : zt Tryz.prog G 117 [.str a] (.tup 2 (zw [.str (Lib.itoa (yR (zY a).toNat)), .i 0])) :=
 zW (T := IR G) (an := J4 (zY a).toNat) mixed (Qh hG) (Eq.mp (by kernel_rfl) (ja G a hi h0 hl))
theorem iL {G : List (Nat × Obj)} (hG : zo G) : zp Tryz.prog G 117 NU := by
 intro xs ps r h hp
 unfold NU at h
 split at h
 ·skip
  rename_i a
  cases h
  obtain ⟨q0, q1, q2, -⟩ := ZI hp
  exact weaken (ys := [.str a]) ⟨zS _, trivial⟩ (I5 hG a q0 q1 q2)
 ·cases h
end Go.Te
