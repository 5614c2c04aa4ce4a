/- surd: Check. -/
import Derived.Test.YthbpnknhfokadaaGreatDoorThQc
import Derived.Shelf.Spec.SlicesGrow
import Derived.Test.YthbpnknhfokadaaGreatDoorSxJ
import Derived.Test.YthbpnknhfokadaaGreatDoorSxU
import Derived.Test.YthbpnknhfokadaaGreatDoorProg
import Derived.Shelf.Strings.Repeat
import Derived.Test.YthbpnknhfokadaaGreatDoorThIf
import Derived.Test.YthbpnknhfokadaaGreatDoorSxDr
import Derived.Test.YthbpnknhfokadaaGreatDoorThIk
import Derived.Test.YthbpnknhfokadaaGreatDoorArZ
set_option linter.unusedSimpArgs false
set_option linter.unusedVariables false
namespace Go.Te
open Go Go.Sx Go.Proofs Go.Ar
set_option maxRecDepth 100000
set_option maxHeartbeats 4000000
noncomputable def GI : Tb := (T0.plus 186 sH).body Tryz.prog [(153, .auto)]
theorem ON : zz Tryz.prog GI := zz.body mixed (zz.plus zq Nw) _
theorem KV (s : List UInt8) (h : zi s = false) :
 Zy [AV.str s, AV.str [(47 : UInt8)]] → leB iZ (Lib.indexByte s (47 : UInt8)) = false := by
 delta iZ
 intro hb
 refine Bool.eq_false_iff.2 fun e => ?_
 obtain ⟨z, _, hlt, _, hc⟩ := (sC 47 s).1 ((Zx _ _).1 e)
 have : zi s = true := List.any_eq_true.2 ⟨s.getD z 0, wF hlt, by rw [hc]; rfl⟩
 rw [h] at this
 cases this
def S4 : List AV → Option (List zN × AV)
 | [.str s, .str p] => some ([.b (p == [47]), .p (zi s = false)], .b false)
 | _ => none
theorem Ln : zP Tryz.prog [] 108 S4 := by
 intro xs ps r h hp
 unfold S4 at h
 split at h
 ·rename_i s p
  cases h
  have q : (p == [47]) = true := hp _ List.mem_cons_self
  have q1 : zi s = false := hp _ (List.mem_cons_of_mem _ List.mem_cons_self)
  obtain rfl := eq_of_beq q
  exact zv mixed ON (Eq.mp (by kernel_rfl) (KV s q1) : vm Tryz.prog GI 108 .auto [.str s, .str [47]] (.b false))
 ·cases h
structure jj (t : Tm) : Prop where
 ne : t.c ≠ 0
 bc : bq 60 t.c
 nat : ZG RM t
 nrm : nrm (mQ t.q) = (1, mQ t.q)
theorem Jz {t : Tm} (h : jj t) : lP (zW t.q) ∧ nK t.q = 1 ∧ nL t.q = t.q ∧ zi (zW t.q) = false ∧ t.q ≠ 0 := by
 obtain ⟨b1, p1, d1, n1⟩ := WS h.nat (by decide)
 obtain ⟨e, h0, h1⟩ := h.nat.mQ
 refine ⟨⟨(Zh (by decide) (by decide)).2 (b1.mono (by decide)), by rw [zS]; exact p1, ?_⟩, ?_, ?_, ?_, Rat.ne_of_gt p1⟩
 ·rw [zS]
  have a1 : XZ t.q.num ≤ 8 := xf (by decide) b1.num
  have a2 : Lib.nDigits t.q.den ≤ 8 := (Zw (by decide)).2 b1.den
  omega
 ·unfold nK
  rw [h.nrm, d1]
  exact (show mkRat 1 1 = 1 by decide +kernel)
 ·unfold nL
  rw [h.nrm]
  exact e.symm
 ·rw [e, w5]
  exact (Ml _).2.2.1
noncomputable def Ga (G : List (Nat × Obj)) : Tb := (((((Xh G).plus 43 ua).plus 44 (Yl fun s => .b (zk s))).plus 83 uf).plus 47 uk).plus 108 S4
theorem OH {G : List (Nat × Obj)} (hG : zO G) : zz Tryz.prog (Ga G) := zz.plus (zz.plus (zz.plus (zz.plus (zz.plus zq (SC hG)) (zP.mono rp)) (PT hG)) (pA hG)) (zP.mono Ln)
def UY : List AV → Option (List zN × AV)
 | [x_t] => some ([.b (yp Tm x_t), .p (jj (yR (α := Tm) x_t))], .i 0)
 | _ => none
theorem oK (G : List (Nat × Obj)) (t : Tm) (ht : jj t) :
 let q1 := (ByteArray.data (ByteArray.mk #[(48 : UInt8)])); let q3 := (zG (60 : Int) (WT (zo (zW (Tm.c t))))); let q2 := (!zr false q3 || zr false q3); let q4 := (ByteArray.data (ByteArray.mk #[(49 : UInt8)])); let q5 := (kI ∧ iZ = iZ); let q6 := (!zr false (zk (zW (Tm.q t))) || zr false (zk (zW (Tm.q t)))); let q8 := (bif zk (zW (Tm.q t)) then true else zW (Tm.q t) == Array.toList q1); let q7 := (!zr false q8 || zr false q8); let q9 := (kI ∧ (8 : Int) = iZ); let q11 := (bif iZ != iZ then true else
 !zW (nK (zo (zW (Tm.q t)))) == Array.toList q4); let q10 := (!zr false q11 || zr false q11); Zy [AV.agg 2 (zR.enc t)] → YZ 300 (zW (Tm.c t)) ∧ YZ 300 (zW (Tm.q t)) ∧ zZ (zW (Tm.c t) == Array.toList q1) (kI ∧ (12 : Int) = iZ) (YZ 300 (zW (Tm.c t)) ∧ bF q2 (bF q2 ((zr false q3 = true → YZ 300 (zW (Tm.q t))) ∧ bF q2 (bF (!!zG (60 : Int) (WT (zo (zW (Tm.c t)))) || zr false q3) (zZ (bif zG (60 : Int) (WT (zo (zW (Tm.c t)))) then true else zG (40 : Int) (WT (zo (zW (Tm.q t))))) (kI ∧ (4 :
 Int) = iZ) (zZ (zW (Tm.q t) == Array.toList q4) q5 (bF q6 (bF q6 (bF (!!zk (zW (Tm.q t)) || zr false (zk (zW (Tm.q t)))) (bF q7 (bF q7 (bF (!zr false q8 || bA #[(47 : UInt8)] == [(47 : UInt8)]) ((zr false q8 = true → zi (zW (Tm.q t)) = false) ∧ bF ((!!bif zk (zW (Tm.q t)) then true else zW (Tm.q t) == Array.toList q1) || zr false q8) (zZ (bif bif zk (zW (Tm.q t)) then true else zW (Tm.q t) == Array.toList q1 then true else false) q9 (lP (zW (Tm.q t)) ∧ bF q10 (zZ
 q10 (bF q10 (bF ((!!bif iZ != iZ then true else !zW (nK (zo (zW (Tm.q t)))) == Array.toList q4) || zr false q11) (zZ (bif bif iZ != iZ then true else !zW (nK (zo (zW (Tm.q t)))) == Array.toList q4 then true else !zW (nL (zo (zW (Tm.q t)))) == zW (Tm.q t)) q9 q5))) False)))))))))))))))) := by
 delta bF bA kI iZ
 dsimp only
 intro hb
 simp only [sS, Zu, za, zS, zF, Zz, ZC, Zr, dS]
 obtain ⟨q1, q2, q3, q4, q5⟩ := Jz ht
 obtain ⟨b1, p1, d1, n1⟩ := WS ht.nat (by decide)
 have o1 : YZ 300 (zW t.c) := (Zh (by decide) (by decide)).2 (ht.bc.mono (by decide))
 have o2 : YZ 300 (zW t.q) := (Zh (by decide) (by decide)).2 (b1.mono (by decide))
 have hm : zk (zW t.q) = false := um o2.1 (by rw [zS]; exact Rat.le_of_lt p1)
 have l60 : zG 60 (WT t.c) = false := Bool.eq_false_iff.2 fun e => by
  have := (zp _ _).1 e
  have := vk (by decide) ht.bc
  omega
 have l40 : zG 40 (WT t.q) = false := Bool.eq_false_iff.2 fun e => by
  have := (zp _ _).1 e
  have := vk (by decide) b1
  omega
 have z1 : (zW t.c == [48]) = false := by rw [x4]; exact decide_eq_false ht.ne
 have z2 : (zW t.q == [48]) = false := by rw [x4]; exact decide_eq_false q5
 have z3 : (zW (1 : Rat) == [49]) = true := by rw [u4]; decide
 rw [z1, l60, l40, hm, z2, q2, q3, z3]
 refine ⟨o1, o2, zX.2 ⟨fun c => (by cases c), fun _ => ⟨o1, fun _ => o2, zX.2 ⟨fun c => (by cases c), fun _ => zX.2 ⟨fun _ => trivial, fun _ => zX.2 ⟨fun _ => ⟨fun _ => q4, zX.2 ⟨fun c => (by cases c), fun _ => ⟨q1, zX.2 ⟨fun c => ?_, fun _ => trivial⟩⟩⟩⟩, fun c => (by cases c)⟩⟩⟩⟩⟩⟩
 simp at c
theorem Np {G : List (Nat × Obj)} (hG : zO G) (t : Tm) (ht : jj t) : zu Tryz.prog G 71 [xz t] (.i 0) :=
 zv (T := Ga G) (an := .auto) mixed (OH hG) (Eq.mp (by kernel_rfl) (oK G t ht))
theorem nU {G : List (Nat × Obj)} (hG : zO G) : zP Tryz.prog G 71 UY := by
 intro xs ps r h hp
 unfold UY at h
 split at h
 ·skip
  rename_i x_t
  cases h
  obtain ⟨q0, q1, -⟩ := Zo hp
  exact weaken (ys := [xz (yR (α := Tm) x_t)]) ⟨Zs q0, trivial⟩ (Np hG (yR (α := Tm) x_t) q1)
 ·cases h
theorem Za (x : Tm) (z : Nat → AV) : yR (AV.agg 2 fun i => if i < 2 then zR.enc x i else z i) = x := by
 show (⟨zo (zW x.c), zo (zW x.q)⟩ : Tm) = x
 rw [zS, zS]
theorem ZP (x : Tm) (z : Nat → AV) : yp Tm (AV.agg 2 fun i => if i < 2 then zR.enc x i else z i) = true := by
 show ((true && lO (zW x.c)) && (true && lO (zW x.q))) = true
 rw [uh, uh]; rfl
structure Xl (s : List Tm) : Prop where
 g : gS RM s
 len : s.length ≤ 16
 bc : ∀ x ∈ s, bq 60 x.c
def J5  : yQ :=
 .two .auto (.two (.two .auto (.one (.loop Nat (fun σ z => [(0, σ.tm 0), (1, σ.tm 1), (7, σ.tm 7), (8, .i (z : Int))]) (fun σ z => []) 0 (fun σ z => 0 ≤ z) (fun σ z => 100 - z) .auto))) .auto)
def j9 (s : List Tm) : yQ :=
 .two .auto (.two .auto (.two (.two .auto (.one (.loop Nat (fun σ z => [(0, σ.tm 0), (11, σ.tm 11), (12, σ.tm 12), (13, .i (z : Int))]) (fun σ z => []) 0 (fun σ z => z ≤ s.length) (fun σ z => s.length - z) .auto))) .auto))
noncomputable def Hk (G : List (Nat × Obj)) : Tb := ((((Xh G).plus 71 UY).plus 29 rn).plus 74 Ui).body Tryz.prog [(73, .auto)]
theorem Qv {G : List (Nat × Obj)} (hG : zO G) : zz Tryz.prog (Hk G) := zz.body mixed (zz.plus (zz.plus (zz.plus zq (nU hG)) (Qk hG)) (Qe hG)) _
noncomputable def Ge (G : List (Nat × Obj)) : Tb := ((Hk G).body Tryz.prog [(109, J5)]).body Tryz.prog [(72, .auto)]
theorem O8 {G : List (Nat × Obj)} (hG : zO G) : zz Tryz.prog (Ge G) := zz.body mixed (zz.body mixed (Qv hG) _) _
def TJ : List AV → Option (List zN × AV)
 | [x_s] => some ([.b (z6 Tm x_s), .p (Xl (Z5 (α := Tm) x_s))], .i 0)
 | _ => none
theorem jH (G : List (Nat × Obj)) (s : List Tm) (hs : Xl s) :
 let q1 := (AV.xl false 2 (lN s) fun i j => zR.enc (gD s i zR.dflt) j); let q2 := (kI ∧ (lZ s) = (lZ s)); let q11 := (AV.fn (Fn.func 73) 0 (fun (i : Nat) => AV.junk) 1 fun i => Option.getD [AV.np (nat_lit 0) 0][i]? AV.junk); Zy [AV.xl false 2 (lN s) fun i j => zR.enc (gD s i zR.dflt) j] → zZ (zG (16 : Int) (lZ s)) (kI ∧ (4 : Int) = iZ) ((∃ (z : Nat), (z ≤ lN s ∧ zd q1 q1 ∧ zd q1 q1 ∧ q2 ∧ kI ∧ iZ = (cI z)) ∧ True) ∧ ∀ (z :
 Nat), let q4 := (gD s (Int.toNat (cI z)) zR.dflt); let q3 := (AV.agg 2 fun (i : Nat) => if 0 ≤ 0 + i ∧ 0 + i < 2 then zR.enc q4 (0 + (0 + i - 0)) else Z4 (Value.agg #[Value.string (ByteArray.mk #[]), Value.string (ByteArray.mk #[])]) (0 + i)); let q5 := (bF (dK ((cI z) + iO)) (∃ (z' : Nat), ((z' ≤ lN s ∧ lN s - z' < lN s - z) ∧ zd q1 q1 ∧ zd q1 q1 ∧ q2 ∧ kI ∧ (cI z) + iO = (cI z')) ∧ True)); let q6 := (zW (Tm.q (gD s (Int.toNat ((cI z) - iO)) zR.dflt))); let q8 :=
 (Tm.q q4); let q7 := (zW q8); let q9 := (zo q7); let q10 := (AV.xl false 2 (Int.toNat (cI z)) fun i j => zR.enc (gD s i zR.dflt) j); let q12 := (kI ∧ (cI (Int.toNat (↑z : Int))) = (cI (Int.toNat (↑z : Int)))); let q13 := (Tm.c q4); z ≤ lN s → zZ (zG (cI z) (lZ s)) (bF (DB.db (iZ ≤ (cI z) ∧ (cI z) < (lZ s))) (bF (yp Tm q3) (jj (yR q3) ∧ zZ ((cI z) == iZ) q5 (bF (dK ((cI z) - iO)) (bF (DB.db (iZ ≤ (cI z) - iO ∧
 (cI z) - iO < (lZ s))) (YM 140 q6 q7 ∧ zZ (bif iZ != iZ then true else leB iZ (Xj (zo q6) q9)) (kI ∧ (10 : Int) = iZ) (bF (DB.db (iZ ≤ (cI z) ∧ (cI z) ≤ (lZ s))) ((∃ (z_1 : Nat), (0 ≤ z_1 ∧ zd q10 q10 ∧ zd q11 q11 ∧ q12 ∧ kI ∧ iZ = (cI z_1)) ∧ 49 = 49 ∧ 2 = 2 ∧ zW q13 = zW q13 ∧ zW q8 = zW q8) ∧ ∀ (z_1 : Nat), let q14 := (zW (Tm.q (gD s (Int.toNat (cI z_1)) zR.dflt))); 0 ≤ z_1 → zZ (zG (cI z_1) (↑(Int.toNat (cI z))
 : Int)) (bF (DB.db (iZ ≤ (cI z_1) ∧ (cI z_1) < (cI (Int.toNat (↑z : Int))))) (jo q7 q14 ∧ zZ (bif iZ == iZ then yH q9 (zo q14) else false) (kI ∧ (7 : Int) = iZ) (bF (dK ((cI z_1) + iO)) (∃ (z' : Nat), ((0 ≤ z' ∧ 100 - z' < 100 - z_1) ∧ zd q10 q10 ∧ zd q11 q11 ∧ q12 ∧ kI ∧ (cI z_1) + iO = (cI z')) ∧ 49 = 49 ∧ 2 = 2 ∧ zW q13 = zW q13 ∧ zW q8 = zW q8)))) q5)))))))) (kI ∧ iZ = iZ)) := by
 delta bF dK cI kI lZ lN gD iZ iO
 dsimp only
 intro hb
 simp only [↓yU, ↓ZF, row_one]
 simp only [sS, Zu, za, zS, zF, Zz, ZC, Zr, dS, Za, ZP]
 have hl := hs.len
 have gd : ∀ x ∈ s, jj x := fun x hx => ⟨hs.g.ne x hx, hs.bc x hx, hs.g.nat x hx, hs.g.nrm x hx⟩
 have pw : ∀ (P : Tm → Tm → Prop), s.Pairwise P → ∀ i j, i < j → j < s.length → P (s.getD i zR.dflt) (s.getD j zR.dflt) := fun P hP i j hij hj => by
  have := (List.pairwise_iff_getElem.1 hP) i j (by omega) hj hij
  rw [List.getD_eq_getElem?_getD, List.getD_eq_getElem?_getD, List.getElem?_eq_getElem hj, List.getElem?_eq_getElem (show i < s.length by omega)]
  exact this
 refine ⟨fun h => by omega, fun _ => ⟨⟨0, Nat.zero_le _, rfl⟩, fun z hz => ⟨fun hlt => ?_, fun _ => trivial⟩⟩⟩
 have hzl : z < s.length := by omega
 have g1 := gd _ (ye hzl)
 refine ⟨⟨by omega, by omega⟩, g1, fun h0 => ⟨by simp only [yD]; omega, z + 1, ⟨by omega, by omega⟩, by omega⟩, fun h0 => ?_⟩
 have e1 : ((z : Int) - 1).toNat = z - 1 := by omega
 rw [e1]
 have g2 := gd _ (ye (show z - 1 < s.length by omega))
 have hlt2 : (s.getD (z - 1) zR.dflt).q < (s.getD z zR.dflt).q := by
  have h1 := pw jC hs.g.le (z - 1) z (by omega) hzl
  have h2 := nD g2.nat (pw unr hs.g.unr (z - 1) z (by omega) hzl)
  exact Rat.lt_of_le_of_ne h1 h2
 have hc : leB 0 (Xj (s.getD (z - 1) zR.dflt).q (s.getD z zR.dflt).q) = false := Bool.eq_false_iff.2 fun e => by
  have := (Zx _ _).1 e
  have := (uD _ _).2 hlt2
  omega
 rw [hc]
 have oq : ∀ x : Tm, jj x → YZ 140 (zW x.q) := fun x hx => (Zh (by decide) (by decide)).2 ((WS hx.nat (by decide)).1.mono (by decide))
 refine ⟨by simp only [yD]; omega, ⟨by omega, by omega⟩, ⟨oq _ g2, oq _ g1⟩, zX.2 ⟨fun c => (by cases c), fun _ => ⟨⟨by omega, by omega⟩, ⟨0, rfl⟩, fun k _ => ⟨fun hk => ?_, fun hk => ⟨by simp only [yD]; omega, z + 1, ⟨by omega, by omega⟩, by omega⟩⟩⟩⟩⟩
 have g3 := gd _ (ye (show k < s.length by omega))
 have hr : yH (s.getD z zR.dflt).q (s.getD k zR.dflt).q = false := (uC g1.nat g3.nat (by decide)).2 (pw unr hs.g.unr k z (by omega) hzl).symm
 rw [hr]
 exact ⟨⟨by omega, by omega⟩, qf g1.nat g3.nat, zX.2 ⟨fun c => (by cases c), fun _ => ⟨by simp only [yD]; omega, k + 1, by omega, by omega⟩⟩⟩
theorem Hp {G : List (Nat × Obj)} (hG : zO G) (s : List Tm) (hs : Xl s) : zu Tryz.prog G 35 [ZA s] (.i 0) :=
 zv (T := Ge G) (an := j9 s) mixed (O8 hG) (Eq.mp (by kernel_rfl) (jH G s hs))
theorem P6 {G : List (Nat × Obj)} (hG : zO G) : zP Tryz.prog G 35 TJ := by
 intro xs ps r h hp
 unfold TJ at h
 split at h
 ·skip
  rename_i x_s
  cases h
  obtain ⟨q0, q1, -⟩ := Zo hp
  exact weaken (ys := [ZA (Z5 (α := Tm) x_s)]) ⟨ze q0, trivial⟩ (Hp hG (Z5 (α := Tm) x_s) q1)
 ·cases h
end Go.Te

namespace Go.Proofs
open Go.Shelf
def Tryz.growCut_ren : Go.Shelf.Ren := ⟨fun | 4 => 75 | n => n, fun | 22 => 26 | 25 => 49 | 3 => 3 | 4 => 4 | 9 => 9 | 20 => 20 | 0 => 0 | n => n, fun | n => n⟩
theorem Tryz.growCut : Go.Proofs.Lays8.n4 Tryz.prog Tryz.growCut_ren := {
 mixed := by kernel_rfl
 f4 := ⟨Tryz.f75.name, by decide, Tryz.func75.trans (congrArg some (by kernel_rfl))⟩
 t0 := Tryz.underlying0
 a0 := Tryz.isAgg0
 z0 := Tryz.sizeOf0
 v0 := Tryz.zeroValue0
 t3 := Tryz.underlying3
 a3 := Tryz.isAgg3
 z3 := Tryz.sizeOf3
 v3 := Tryz.zeroValue3
 t4 := Tryz.underlying4
 a4 := Tryz.isAgg4
 z4 := Tryz.sizeOf4
 v4 := Tryz.zeroValue4
 t9 := Tryz.underlying9
 a9 := Tryz.isAgg9
 z9 := Tryz.sizeOf9
 v9 := Tryz.zeroValue9
 t20 := Tryz.underlying20
 a20 := Tryz.isAgg20
 z20 := Tryz.sizeOf20
 v20 := Tryz.zeroValue20
 t22 := Tryz.underlying26
 a22 := Tryz.isAgg26
 z22 := Tryz.sizeOf26
 v22 := Tryz.zeroValue26 }
end Go.Proofs
namespace Go.Te
open Go Go.Sx Go.Proofs Go.RowKit Go.Shelf
set_option maxHeartbeats 4000000
set_option maxRecDepth 100000
def PE (nb : Nat) (bl : Nat → OB) (xs : List AV) (K : Nat → (Nat → OB) → AV → Prop) : Prop :=
 match xs with
 | [.v (.slice none 0 0), .v (.int .i64 n)] => (0 ≤ n ∧ n ≤ 100000) ∧ K (nb + 1) (upd bl nb (.arr 49 2 0 fun _ _ => .junk)) (.ns nb 0 0)
 | _ => ZD xs
theorem nA (bl : Nat → OB) (nb : Nat) : upd bl nb (.arr 49 2 (0 + 0) fun a b => if a < 0 then AV.junk else AV.junk) = upd bl nb (.arr 49 2 0 fun _ _ => .junk) := by
 congr 2
theorem lX (G : List (Nat × Obj)) : uT Tryz.prog G 75 PE := by
 refine ⟨enters_of Tryz.func75 (by kernel_rfl) rfl, ?_, ?_⟩
 ·intro nb bl xs k k' hk h
  unfold PE at h ⊢
  split at h
  ·exact ⟨h.1, hk _ _ _ h.2⟩
  ·exact h
 ·intro E nb bl S ρ w xs vs k _ hM hx h
  unfold PE at h
  split at h
  ·rename_i n
   obtain ⟨hn, hk⟩ := h
   match vs, hx with
   | [v, v2], ⟨hv, hv2, _⟩ =>
   obtain rfl := ZR hv
   obtain rfl := ZR hv2
   obtain ⟨m, rfl⟩ : ∃ m : Nat, n = m := ⟨n.toNat, by omega⟩
   have fin : ∀ (w' : World) (v' : Value), U1 w w' 49 2 0 0 (.slice none 0 0) v' (fun _ _ => undef) (fun _ _ => undef) none →
     ∃ nb' bl' S' ρ' x rv, (Ending.returned v') = .returned rv ∧ k nb' bl' x ∧ Mem E nb' bl' S' ρ' w' ∧ (∀ b, S b → S' b ∧ w'.heap[b]? = w.heap[b]?) ∧ zI ρ ρ' ∧ zE w' S' ρ' x rv := fun w' v' hA => by
    obtain ⟨o, m1, m2, m3, m4⟩ := X5 (els := fun _ _ => .junk) (src := fun _ _ => .junk) hM hA (fun g hg => by cases hg) (fun i j hi => absurd hi (Nat.not_lt_zero _)) (fun i j hi => absurd hi (Nat.not_lt_zero _))
    rw [nA] at m1
    exact ⟨_, _, S, _, _, _, rfl, hk, m1, m3, m2, m4⟩
   by_cases h0 : m = 0
   ·subst h0
    refine (show Calls Tryz.prog 75 _ _ _ from Any8.slices_Grow_room Tryz.growCut none 0 0 0 w (Nat.le_refl _) (by omega) (by omega) (by omega)).mono ?_
    rintro e w' ⟨rfl, rfl⟩
    exact fin _ _ ⟨rfl, rfl, rfl, Nat.le_refl _, Nat.le_refl _, .inl ⟨none, rfl, rfl, rfl⟩⟩
   ·obtain ⟨i, hi, hz, hs, hby⟩ : ∃ i : TypeInfo, Tryz.prog.info? 49 = some i ∧ (∃ z, i.zero = some z ∧ z.cells.size = 2) ∧ i.size = 2 ∧ i.bytes = 32 := by
     refine ⟨_, rfl, ⟨_, rfl, ?_⟩, ?_, ?_⟩ <;> kernel_rfl
    obtain ⟨z, hz1, hz2⟩ := hz
    refine (show Calls Tryz.prog 75 _ _ _ from Any8.slices_Grow_grow Tryz.growCut i z hi hz1 (by omega) none 0 0 m [] w (Nat.le_refl _) (by omega) (by rw [hby]; omega) (by omega) (by simp) (fun _ => rfl) (fun a ha => by cases ha)).mono ?_
    rintro e w' ⟨rfl, rfl⟩
    refine fin _ _ ?_
    refine ⟨rfl, rfl, rfl, by simp, sP w 1, .inr ⟨w.heap.size, _, _, rfl, .inl rfl, Nat.zero_le _, ?_, heap_alloc_new w.drew _, ?_, fun b hb _ => heap_alloc_old w.drew _ hb, fun i j hi => absurd hi (Nat.not_lt_zero _), fun i j hi => absurd hi (Nat.not_lt_zero _)⟩⟩
    ·exact grownCap_le_maxLen w _ 0 49 (by unfold maxLen; omega)
    ·have hg := grownCap_ge w (0 + m) 0 49
     simp only [Array.size_append, List.size_toArray, List.length_nil, size_zeroCells, hz2, ← Nat.add_mul, Nat.zero_add]
     show (m - 0 + (grownCap w m 0 49 - m)) * 2 = grownCap w m 0 49 * 2
     rw [Nat.zero_add] at hg
     congr 1
     omega
  ·exact h.elim
end Go.Te

namespace Go.Te
open Go Go.Sx Go.Proofs Go.Ar
set_option maxRecDepth 100000
set_option maxHeartbeats 4000000
theorem Z1 (l : List Tm) : Z5 (AV.xl false 2 l.length fun i j => zR.enc (l.getD i zR.dflt) j) = l := uH l
theorem ZN (l : List Tm) : z6 Tm (AV.xl false 2 l.length fun i j => zR.enc (l.getD i zR.dflt) j) = true := vn l
theorem V7 (s t : List Tm) : (AV.xl false 2 (s.length + t.length) fun i j => if i < s.length then (if i < 0 then AV.junk else zR.enc (s.getD i zR.dflt) j) else zR.enc (t.getD (i - s.length) zR.dflt) j) = AV.xl false 2 (s ++ t).length fun i j => zR.enc ((s ++ t).getD i zR.dflt) j := by
 rw [List.length_append]
 congr 1
 funext i j
 by_cases h : i < s.length
 ·rw [if_pos h, if_neg (Nat.not_lt_zero _), show (s ++ t).getD i zR.dflt = s.getD i zR.dflt by simp [List.getD_eq_getElem?_getD, List.getElem?_append_left h]]
 ·rw [if_neg h, show (s ++ t).getD i zR.dflt = t.getD (i - s.length) zR.dflt by simp [List.getD_eq_getElem?_getD, List.getElem?_append_right (Nat.le_of_not_lt h)]]
theorem nN : zo [45, 49] = -1 := by decide +kernel
def iK  : yQ :=
 .two .auto (.two .auto (.two (.two .auto (.one (.unroll 3 .auto))) (.two .auto (.two (.two .auto (.one (.unroll 3 .auto))) .auto))))
def IK (s : List Tm) (c : Rat) : yQ :=
 .two .auto (.two .auto (.two (.two .auto (.one (.loop Nat (fun σ z => [(1, σ.tm 1), (11, σ.tm 11), (12, σ.tm 12), (6, .ns σ.nb 0 (yS c (s.take z)).length), (13, .i (z : Int))]) (fun σ z => [(σ.nb, Mt 49 (yS c (s.take z)))]) 1 (fun σ z => z ≤ s.length) (fun σ z => s.length - z) .auto))) .auto))
def nj : List AV → Option (List zN × AV)
 | [x_s, .str c] => some ([.b (z6 Tm x_s), .p ((Z5 (α := Tm) x_s).length ≤ 1000), .p (YZ 10 c), .p (∀ x ∈ (Z5 (α := Tm) x_s), bq 100 x.c)], .tup 2 (zw [ZA (yS (zo c) (Z5 (α := Tm) x_s)), .i 0]))
 | _ => none
theorem Ji (G : List (Nat × Obj)) (s : List Tm) (c : List UInt8) (hl : s.length ≤ 1000) (hc : YZ 10 c) (hs : ∀ x ∈ s, bq 100 x.c) :
 Zy [AV.xl false 2 (lN s) fun i j => zR.enc (gD s i zR.dflt) j, AV.str c] → (∃ (z : Nat), (z ≤ lN s ∧ c = c ∧ zd (AV.xl false 2 (lN s) fun i j => zR.enc (gD s i zR.dflt) j) (AV.xl false 2 (lN s) fun i j => zR.enc (gD s i zR.dflt) j) ∧ (kI ∧ (lZ s) = (lZ s)) ∧ (some (X7 Nat) = some (X7 Nat) ∧ 0 = 0 ∧ lN (yS (zo c) (List.take z s)) = 0) ∧ kI ∧ iZ = (cI z)) ∧ lN (yS (zo c) (List.take z s)) = 0) ∧ ∀ (z : Nat), z ≤ lN s →
 zZ (zG (cI z) (lZ s)) (bF (DB.db (iZ ≤ (cI z) ∧ (cI z) < (lZ s))) (YM 140 (zW (Tm.c (gD s (Int.toNat (cI z)) zR.dflt))) c ∧ bF (DB.db ((lN (yS (zo c) (List.take z s)) + 1) * 32 ≤ 140737488355328)) (bF (dK ((cI z) + iO)) (∃ (z' : Nat), ((z' ≤ lN s ∧ lN s - z' < lN s - z) ∧ c = c ∧ zd (AV.xl false 2 (lN s) fun i j => zR.enc (gD s i zR.dflt) j) (AV.xl false 2 (lN s) fun i j => zR.enc (gD s i zR.dflt) j) ∧
 (kI ∧ (lZ s) = (lZ s)) ∧ (nat_lit 0 = 0 ∧ 0 = 0 ∧ lN (yS (zo c) (List.take z' s)) = lN (yS (zo c) (List.take z s)) + 1) ∧ kI ∧ (cI z) + iO = (cI z')) ∧ (49 : TypeId) = 49 ∧ 2 = 2 ∧ lN (yS (zo c) (List.take z' s)) = lN (yS (zo c) (List.take z s)) + 1 ∧ ∀ (i j : Nat), i < lN (yS (zo c) (List.take z s)) + 1 → j < 2 → zd (if i < lN (yS (zo c) (List.take z s)) then zR.enc (gD (yS (zo c) (List.take z s)) i zR.dflt) j else Sx.rowAt
 [zw [AV.str (zW (zo (zW (Tm.c (gD s (Int.toNat (cI z)) zR.dflt))) * zo c)), AV.str (zW (Tm.q (gD s (Int.toNat (cI z)) zR.dflt)))]] (i - lN (yS (zo c) (List.take z s))) j) (zR.enc (gD (yS (zo c) (List.take z' s)) i zR.dflt) j))))) (j2 ∧ (True ∧ zd (AV.xl false 2 (lN (yS (zo c) (List.take z s))) fun i j => zR.enc (gD (yS (zo c) (List.take z s)) (0 + i) zR.dflt) j) (AV.xl false 2 (lN (yS (zo c) s)) fun i j => zR.enc (gD (yS (zo c) s) i
 zR.dflt) j)) ∧ kI ∧ iZ = iZ) := by
 delta bF dK cI kI j2 lZ lN gD iZ iO
 intro hb
 simp only [↓yU, ↓ZF, row_one]
 simp only [sS, Zu, za, zS, zF, Zz, ZC, Zr, Za, ZP, Z1, ZN, V7, nN, dS]
 have key : ∀ z, z < s.length → yS (zo c) (s.take (z + 1)) = yS (zo c) (s.take z) ++ [⟨(s.getD z zR.dflt).c * zo c, (s.getD z zR.dflt).q⟩] := fun z hz => by
  rw [UV hz]
  unfold yS
  rw [List.map_append]; rfl
 have len : ∀ z, (yS (zo c) (s.take z)).length ≤ s.length := fun z => by
  unfold yS
  rw [List.length_map, List.length_take]; omega
 refine ⟨⟨0, ⟨Nat.zero_le _, rfl, rfl⟩, rfl⟩, fun z hz => ⟨fun hlt => ?_, fun hge => ?_⟩⟩
 ·have k := key z (by omega)
  have l1 := len z
  refine ⟨⟨by omega, by omega⟩, ⟨(Zh (by decide) (by decide)).2 ((hs _ (ye (by omega))).mono (by decide)), hc.mono (by decide)⟩, by omega, by simp only [yD]; omega, z + 1, ⟨⟨by omega, by omega⟩, by rw [k]; simp, by omega⟩, by rw [k]; simp, fun i j hi hj => ?_⟩
  rw [k]
  exact PV _ ⟨(s.getD z zR.dflt).c * zo c, (s.getD z zR.dflt).q⟩ i j hi
 ·obtain rfl : z = s.length := by omega
  rw [List.take_length]
  exact ⟨rfl, zV _⟩
theorem HM {G : List (Nat × Obj)} (hG : zO G) (s : List Tm) (c : List UInt8) (hl : s.length ≤ 1000) (hc : YZ 10 c) (hs : ∀ x ∈ s, bq 100 x.c) : zu Tryz.prog G 38 [ZA s, .str c] (.tup 2 (zw [ZA (yS (zo c) s), .i 0])) :=
 zv (T := (Xh G).plus 40 vS) (an := IK s (zo c)) mixed (zz.plus zq (Ve hG)) (Eq.mp (by kernel_rfl) (Ji G s c hl hc hs))
theorem Hg {G : List (Nat × Obj)} (hG : zO G) : zP Tryz.prog G 38 nj := by
 intro xs ps r h hp
 unfold nj at h
 split at h
 ·skip
  rename_i x_s c
  cases h
  obtain ⟨q0, q1, q2, q3, -⟩ := Zo hp
  exact weaken (ys := [ZA (Z5 (α := Tm) x_s), .str c]) ⟨ze q0, zV _, trivial⟩ (HM hG (Z5 (α := Tm) x_s) c q1 q2 q3)
 ·cases h
noncomputable def IA (G : List (Nat × Obj)) : Tb := ((Tb.own1 ((((Xh G).plus 35 TJ).plus 20 rI).plus 38 nj) 75 PE).body Tryz.prog [(36, .auto), (37, iK)])
theorem pI {G : List (Nat × Obj)} (hG : zO G) : zz Tryz.prog (IA G) := zz.body mixed (zz.own1 (zz.plus (zz.plus (zz.plus zq (P6 hG)) (ma hG)) (Hg hG)) (lX G)) _
def Qm : List AV → Option (List zN × AV)
 | [x_s, x_t] => some ([.b (z6 Tm x_s), .b (z6 Tm x_t), .p (Xl (Z5 (α := Tm) x_s)), .p (Xl (Z5 (α := Tm) x_t)), .p (Vw ((Z5 (α := Tm) x_s) ++ yS (-1) (Z5 (α := Tm) x_t)))], .tup 2 (zw [ZA (YQ ((Z5 (α := Tm) x_s) ++ yS (-1) (Z5 (α := Tm) x_t))), .i 0]))
 | _ => none
theorem Kk (G : List (Nat × Obj)) (s : List Tm) (t : List Tm) (hs : Xl s) (ht : Xl t) (hm : Vw (s ++ yS (-1) t)) :
 let q1 := (AV.xl false 2 (lN s) fun i j => zR.enc (gD s i zR.dflt) j); let q2 := (AV.xl false 2 (lN t) fun i j => zR.enc (gD t i zR.dflt) j); let q3 := (Z5 q2); let q4 := (bA #[(45 : UInt8), (49 : UInt8)]); let q6 := (yS (zo q4) q3); let q5 := (lZ q6); let q7 := (0 + lN s + lN q6); let q8 := (AV.xl false 2 q7 fun i j => if 0 + i < 0 + lN s then if 0 + i < 0 then AV.junk else zR.enc (gD s (0 + i - 0) zR.dflt) j else zR.enc (gD q6 (0 + i - (0 +
 lN s)) zR.dflt) j); let q9 := (Z5 q8); let q10 := (YQ q9); Zy [AV.xl false 2 (lN s) fun i j => zR.enc (gD s i zR.dflt) j, AV.xl false 2 (lN t) fun i j => zR.enc (gD t i zR.dflt) j] → bF (z6 Tm q1) (Xl (Z5 q1) ∧ bF (!zr true (iZ == iZ) || z6 Tm q2) ((zr true (iZ == iZ) = true → Xl q3) ∧ bF (z6 Tm q2) (lN q3 ≤ 1000 ∧ YZ 10 q4 ∧ (∀ (x : Tm), List.Mem x q3 → bq 100 (Tm.c x)) ∧ bF (dK (iZ + (lZ s))) (bF (dK (iZ +
 (lZ s) + q5)) ((iZ ≤ iZ + (lZ s) + q5 ∧ iZ + (lZ s) + q5 ≤ (100000 : Int)) ∧ bF (DB.db ((0 + lN s) * 32 ≤ 140737488355328)) (bF (DB.db (q7 * 32 ≤ 140737488355328)) (zZ (z6 Tm q8) (Vw q9 ∧ j2 ∧ (True ∧ zd (AV.xl false 2 (lN q10) fun i j => zR.enc (gD q10 i zR.dflt) j) (AV.xl false 2 (lN (YQ (s ++ yS (-1 : Rat) t))) fun i j => zR.enc (gD (YQ (s ++ yS (-1 : Rat) t)) i zR.dflt) j)) ∧ kI ∧ iZ = iZ)
 False))))))) := by
 delta bF dK bA kI j2 lZ lN gD iZ
 dsimp only
 intro hb
 simp only [↓yU, ↓ZF, row_one]
 simp only [sS, Zu, za, zS, zF, Zz, ZC, Zr, Za, ZP, Z1, ZN, V7, nN, dS]
 have l1 := hs.len
 have l2 := ht.len
 have l3 : (yS (-1) t).length = t.length := by unfold yS; rw [List.length_map]
 refine ⟨hs, fun _ => ht, by omega, ⟨by decide +kernel, ⟨by decide +kernel, by decide +kernel⟩⟩, fun x hx => (ht.bc x hx).mono (by decide), by simp only [yD]; omega, by simp only [yD]; omega, ⟨by omega, by omega⟩, by omega, by omega, hm, rfl⟩
theorem ND {G : List (Nat × Obj)} (hG : zO G) (s : List Tm) (t : List Tm) (hs : Xl s) (ht : Xl t) (hm : Vw (s ++ yS (-1) t)) : zu Tryz.prog G 13 [ZA s, ZA t] (.tup 2 (zw [ZA (YQ (s ++ yS (-1) t)), .i 0])) :=
 zv (T := IA G) (an := .auto) mixed (pI hG) (Eq.mp (by kernel_rfl) (Kk G s t hs ht hm))
theorem JN {G : List (Nat × Obj)} (hG : zO G) : zP Tryz.prog G 13 Qm := by
 intro xs ps r h hp
 unfold Qm at h
 split at h
 ·skip
  rename_i x_s x_t
  cases h
  obtain ⟨q0, q1, q2, q3, q4, -⟩ := Zo hp
  exact weaken (ys := [ZA (Z5 (α := Tm) x_s), ZA (Z5 (α := Tm) x_t)]) ⟨ze q0, ze q1, trivial⟩ (ND hG (Z5 (α := Tm) x_s) (Z5 (α := Tm) x_t) q2 q3 q4)
 ·cases h
def Px (s t : List Tm) (i k : Nat) : List Tm := y7 (s.take i) t ++ (t.take k).map (Xo (s.getD i zR.dflt))
def iJ (s t : List Tm) : yQ :=
 .two .auto (.two .auto (.two .auto (.two (.two .auto (.one (.loop Nat (fun σ z => [(1, σ.tm 1), (18, σ.tm 18), (19, σ.tm 19), (6, .ns σ.nb 0 (y7 (s.take z) t).length), (20, .i (z : Int))]) (fun σ z => [(σ.nb, Mt 49 (y7 (s.take z) t))]) 1 (fun σ z => z ≤ s.length) (fun σ z => s.length - z) (.two .auto (.two .auto (.two (.one (.two .auto (.two .auto (.one (.loop Nat (fun σ z => [(1, σ.tm 1), (8, σ.tm 8), (18, σ.tm 18), (19, σ.tm 19), (20, σ.tm 20), (24, σ.tm 24), (25, σ.tm 25), (6, .ns (Ym (σ.tm 6)) 0 (Px s t (AV.int (σ.tm 20)).toNat z).length), (26, .i (z : Int))]) (fun σ z => [(Ym (σ.tm 6), Mt 49 (Px s t (AV.int (σ.tm 20)).toNat z))]) 0 (fun σ z => z ≤ t.length) (fun σ z => t.length - z) .auto))))) .auto)))))) .auto)))
noncomputable def H9 (G : List (Nat × Obj)) : Tb := ((((Xh G).plus 35 TJ).plus 20 rI).plus 40 vS).body Tryz.prog [(36, .auto)]
theorem pV {G : List (Nat × Obj)} (hG : zO G) : zz Tryz.prog (H9 G) := zz.body mixed (zz.plus (zz.plus (zz.plus zq (P6 hG)) (ma hG)) (Ve hG)) _
def nG : List AV → Option (List zN × AV)
 | [x_s, x_t] => some ([.b (z6 Tm x_s), .b (z6 Tm x_t), .p (Xl (Z5 (α := Tm) x_s)), .p (Xl (Z5 (α := Tm) x_t)), .p (Vw (y7 (Z5 (α := Tm) x_s) (Z5 (α := Tm) x_t)))], .tup 2 (zw [ZA (YQ (y7 (Z5 (α := Tm) x_s) (Z5 (α := Tm) x_t))), .i 0]))
 | _ => none
theorem JG (G : List (Nat × Obj)) (s : List Tm) (t : List Tm) (hs : Xl s) (ht : Xl t) (hm : Vw (y7 s t)) :
 let q1 := (AV.xl false 2 (lN s) fun i j => zR.enc (gD s i zR.dflt) j); let q2 := (AV.xl false 2 (lN t) fun i j => zR.enc (gD t i zR.dflt) j); let q3 := (kI ∧ (lZ s) = (lZ s)); let q5 := (kI ∧ (lZ t) = (lZ t)); Zy [AV.xl false 2 (lN s) fun i j => zR.enc (gD s i zR.dflt) j, AV.xl false 2 (lN t) fun i j => zR.enc (gD t i zR.dflt) j] → bF (z6 Tm q1) (Xl (Z5 q1) ∧ zZ (!zr true (iZ == iZ) || z6
 Tm q2) ((zr true (iZ == iZ) = true → Xl (Z5 q2)) ∧ (∃ (z : Nat), (z ≤ lN s ∧ zd q2 q2 ∧ zd q1 q1 ∧ q3 ∧ (some (X7 Nat) = some (X7 Nat) ∧ 0 = 0 ∧ lN (y7 (List.take z s) t) = 0) ∧ kI ∧ iZ = (cI z)) ∧ lN (y7 (List.take z s) t) = 0) ∧ ∀ (z : Nat), let q4 := (kI ∧ (cI z) = (cI z)); let q7 := (Int.toNat (AV.int (aI (cI z)))); let q9 := (gD s (Int.toNat (cI z)) zR.dflt); let q8 := (Tm.c q9); let q10 := (Tm.q q9); let q11 := (zW q8); let q14 := (zW q10); let q18
 := (AV.xl false 2 (lN (y7 (List.take z s) t)) fun i j => zR.enc (gD (y7 (List.take z s) t) (0 + i) zR.dflt) j); let q19 := (Z5 q18); let q20 := (YQ q19); z ≤ lN s → zZ (zG (cI z) (lZ s)) (bF (DB.db (iZ ≤ (cI z) ∧ (cI z) < (lZ s))) ((∃ (z_1 : Nat), let q6 := (Px s t q7 z_1); (z_1 ≤ lN t ∧ zd q2 q2 ∧ (nat_lit 1 = 1 ∧ 0 = 0) ∧ zd q1 q1 ∧ q3 ∧ q4 ∧ zd q2 q2 ∧ q5 ∧ (nat_lit 0 = 0 ∧ 0 = 0 ∧ lN q6 = lN (y7 (List.take z s) t)) ∧ kI ∧ iZ = (cI z_1))
 ∧ (49 = 49 ∧ 2 = 2 ∧ lN q6 = lN (y7 (List.take z s) t) ∧ ∀ (i j : Nat), i < lN (y7 (List.take z s) t) → j < 2 → zd (zR.enc (gD (y7 (List.take z s) t) i zR.dflt) j) (zR.enc (gD q6 i zR.dflt) j)) ∧ 49 = 49 ∧ 2 = 2 ∧ zW q8 = zW q8 ∧ zW q10 = zW q10) ∧ ∀ (z_1 : Nat), let q13 := (gD t (Int.toNat (cI z_1)) zR.dflt); let q12 := (zW (Tm.c q13)); let q15 := (zW (Tm.q q13)); let q16 := (Px s t q7 z_1); z_1 ≤ lN t → zZ (zG (cI z_1) (lZ t)) (bF (DB.db (iZ ≤ (cI z_1) ∧ (cI z_1)
 < (lZ t))) (YM 140 q11 q12 ∧ YM 140 q14 q15 ∧ bF (DB.db ((lN q16 + 1) * 32 ≤ 140737488355328)) (bF (dK ((cI z_1) + iO)) (∃ (z' : Nat), let q17 := (Px s t q7 z'); ((z' ≤ lN t ∧ lN t - z' < lN t - z_1) ∧ zd q2 q2 ∧ (nat_lit 1 = 1 ∧ 0 = 0) ∧ zd q1 q1 ∧ q3 ∧ q4 ∧ zd q2 q2 ∧ q5 ∧ (nat_lit 0 = 0 ∧ 0 = 0 ∧ lN q17 = lN q16 + 1) ∧ kI ∧ (cI z_1) + iO = (cI z')) ∧ ((49 : TypeId) = 49 ∧ 2 = 2 ∧ lN q17 = lN q16 + 1 ∧ ∀ (i j : Nat), i < List.length
 q16 + 1 → j < 2 → zd (if i < lN q16 then zR.enc (gD q16 i zR.dflt) j else Sx.rowAt [zw [AV.str (zW (zo q11 * zo q12)), AV.str (zW (zo q14 * zo q15))]] (i - lN q16) j) (zR.enc (gD q17 i zR.dflt) j)) ∧ 49 = 49 ∧ 2 = 2 ∧ zW q8 = zW q8 ∧ zW q10 = zW q10)))) (bF (dK ((cI z) + iO)) (∃ (z' : Nat), ((z' ≤ lN s ∧ lN s - z' < lN s - z) ∧ zd q2 q2 ∧ zd q1 q1 ∧ q3 ∧ (nat_lit 0 = 0 ∧ 0 = 0 ∧ lN (y7 (List.take z' s) t) = lN q16) ∧ kI ∧ (↑z :
 Int) + iO = (cI z')) ∧ 49 = 49 ∧ 2 = 2 ∧ lN (y7 (List.take z' s) t) = lN q16 ∧ ∀ (i j : Nat), i < lN q16 → j < 2 → zd (zR.enc (gD q16 i zR.dflt) j) (zR.enc (gD (y7 (List.take z' s) t) i zR.dflt) j))))) (bF (z6 Tm q18) (Vw q19 ∧ j2 ∧ (True ∧ zd (AV.xl false 2 (lN q20) fun i j => zR.enc (gD q20 i zR.dflt) j) (AV.xl false 2 (lN (YQ (y7 s t))) fun i j => zR.enc (gD (YQ (y7 s t)) i zR.dflt) j)) ∧ kI ∧ iZ = iZ)))
 False) := by
 delta bF dK cI kI j2 lZ lN gD iZ iO aI
 dsimp only
 intro hb
 simp only [↓yU, ↓ZF, row_one]
 simp only [sS, Zu, za, zS, zF, Zz, ZC, Zr, Za, ZP, Z1, ZN, V7, nN, dS]
 have l1 := hs.len
 have l2 := ht.len
 have lm : ∀ z, (y7 (s.take z) t).length ≤ 16 * 16 := fun z => by
  rw [Nn, List.length_take]
  exact Nat.mul_le_mul (by omega) l2
 have lp : ∀ z k, (Px s t z k).length ≤ 16 * 16 + 16 := fun z k => by
  unfold Px
  rw [List.length_append, List.length_map, List.length_take]
  have := lm z
  omega
 have p0 : ∀ z, Px s t z 0 = y7 (s.take z) t := fun z => by unfold Px; simp
 have p1 : ∀ z k, k < t.length → Px s t z (k + 1) = Px s t z k ++ [Xo (s.getD z zR.dflt) (t.getD k zR.dflt)] := fun z k hk => by
  unfold Px
  rw [UV hk, List.map_append, ← List.append_assoc]; rfl
 have p2 : ∀ z, z < s.length → y7 (s.take (z + 1)) t = Px s t z t.length := fun z hz => by
  unfold Px
  rw [UV hz, List.take_length]
  unfold y7
  rw [List.flatMap_append]
  simp
 have okq : ∀ q : Rat, bq 60 q → YZ 140 (zW q) := fun q hq => (Zh (by decide) (by decide)).2 (hq.mono (by decide))
 have oq : ∀ x : Tm, ZG RM x → bq 60 x.q := fun x hx => (WS hx (by decide)).1.mono (by decide)
 refine ⟨hs, fun _ => ht, ⟨0, ⟨Nat.zero_le _, rfl, rfl⟩, rfl⟩, fun z hz => ⟨fun hlt => ⟨⟨by omega, by omega⟩, ⟨0, ⟨Nat.zero_le _, by rw [p0], rfl⟩, by rw [p0], fun i j _ _ => by rw [p0]; exact zV _⟩, fun k hk => ⟨fun kl => ?_, fun kg => ?_⟩⟩, fun hge => ?_⟩⟩
 ·have e := p1 z k (by omega)
  have hx := ye (l := s) (i := z) (by omega)
  have hy := ye (l := t) (i := k) (by omega)
  have := lp z k
  refine ⟨⟨by omega, by omega⟩, ⟨okq _ (hs.bc _ hx), okq _ (ht.bc _ hy)⟩, ⟨okq _ (oq _ (hs.g.nat _ hx)), okq _ (oq _ (ht.g.nat _ hy))⟩, by omega, by simp only [yD]; omega, k + 1, ⟨⟨by omega, by omega⟩, by rw [e]; simp, by omega⟩, by rw [e]; simp, fun i j hi hj => ?_⟩
  rw [e]
  exact PV _ (Xo (s.getD z zR.dflt) (t.getD k zR.dflt)) i j hi
 ·obtain rfl : k = t.length := by omega
  have e := p2 z (by omega)
  exact ⟨by simp only [yD]; omega, z + 1, ⟨⟨by omega, by omega⟩, by rw [e], by omega⟩, by rw [e], fun i j _ _ => by rw [e]; exact zV _⟩
 ·obtain rfl : z = s.length := by omega
  rw [List.take_length]
  exact ⟨hm, rfl, zV _⟩
theorem gw {G : List (Nat × Obj)} (hG : zO G) (s : List Tm) (t : List Tm) (hs : Xl s) (ht : Xl t) (hm : Vw (y7 s t)) : zu Tryz.prog G 16 [ZA s, ZA t] (.tup 2 (zw [ZA (YQ (y7 s t)), .i 0])) :=
 zv (T := H9 G) (an := iJ s t) mixed (pV hG) (Eq.mp (by kernel_rfl) (JG G s t hs ht hm))
theorem Hi {G : List (Nat × Obj)} (hG : zO G) : zP Tryz.prog G 16 nG := by
 intro xs ps r h hp
 unfold nG at h
 split at h
 ·skip
  rename_i x_s x_t
  cases h
  obtain ⟨q0, q1, q2, q3, q4, -⟩ := Zo hp
  exact weaken (ys := [ZA (Z5 (α := Tm) x_s), ZA (Z5 (α := Tm) x_t)]) ⟨ze q0, ze q1, trivial⟩ (gw hG (Z5 (α := Tm) x_s) (Z5 (α := Tm) x_t) q2 q3 q4)
 ·cases h
def mH : List AV → Option (List zN × AV)
 | [x_s] => some ([.b (z6 Tm x_s), .p (Xl (Z5 (α := Tm) x_s))], .tup 3 (zw [.str (if (Z5 (α := Tm) x_s).length = 0 then [48] else if (Z5 (α := Tm) x_s).length = 1 ∧ ((Z5 (α := Tm) x_s).getD 0 zR.dflt).q = 1 then zW ((Z5 (α := Tm) x_s).getD 0 zR.dflt).c else []), .b (decide ((Z5 (α := Tm) x_s).length = 0 ∨ (Z5 (α := Tm) x_s).length = 1 ∧ ((Z5 (α := Tm) x_s).getD 0 zR.dflt).q = 1)), .i 0]))
 | _ => none
theorem Jc (G : List (Nat × Obj)) (s : List Tm) (hs : Xl s) :
 let q1 := (AV.xl false 2 (lN s) fun i j => zR.enc (gD s i zR.dflt) j); let q2 := (lN s = 0 ∨ lN s = 1 ∧ Tm.q (gD s 0 zR.dflt) = (1 : Rat)); let q3 := (!zr true ((lZ s) == iO) || zr true ((lZ s) == iO)); let q4 := (iZ ≤ iZ ∧ iZ < (lZ s)); Zy [AV.xl false 2 (lN s) fun i j => zR.enc (gD s i zR.dflt) j] → bF (z6 Tm q1) (Xl (Z5 q1) ∧ zZ ((lZ s) == iZ) (3 = lN [AV.junk, AV.junk, AV.junk] ∧ ((True ∧
 bA #[(48 : UInt8)] = if lN s = 0 then [(48 : UInt8)] else if lN s = 1 ∧ Tm.q (gD s 0 zR.dflt) = (1 : Rat) then zW (Tm.c (gD s 0 zR.dflt)) else []) ∧ true = decide q2) ∧ kI ∧ iZ = iZ) (bF q3 (bF (!zr true ((lZ s) == iO) || DB.db q4) (bF q3 (bF q3 (bF q3 (bF (!(lZ s) == iO || zr true ((lZ s) == iO)) (zZ (bif (lZ s) == iO then zW (Tm.q (gD s 0
 zR.dflt)) == bA #[(49 : UInt8)] else false) (bF (DB.db q4) (3 = lN [AV.junk, AV.junk, AV.junk] ∧ ((True ∧ zW (Tm.c (gD s 0 zR.dflt)) = if lN s = 0 then [(48 : UInt8)] else if lN s = 1 ∧ Tm.q (gD s 0 zR.dflt) = (1 : Rat) then zW (Tm.c (gD s 0 zR.dflt)) else []) ∧ true = decide q2) ∧ kI ∧ iZ = iZ)) (3 = lN [AV.junk, AV.junk, AV.junk] ∧ ((True ∧ bA #[] = if lN s = 0 then [(48 : UInt8)] else if
 lN s = 1 ∧ Tm.q (gD s 0 zR.dflt) = (1 : Rat) then zW (Tm.c (gD s 0 zR.dflt)) else []) ∧ false = decide q2) ∧ kI ∧ iZ = iZ))))))))) := by
 delta bF bA kI lZ lN gD iZ iO
 dsimp only
 intro hb
 simp only [↓yU, ↓ZF, row_one]
 simp only [sS, Zu, za, zS, zF, Zz, ZC, Zr, Za, ZP, Z1, ZN, V7, nN, dS]
 rw [u4]
 refine ⟨hs, fun h => ⟨rfl, by rw [if_pos (by omega)], (decide_eq_true (.inl (by omega))).symm⟩, fun h => ⟨fun _ => ⟨by omega, by omega⟩, zX.2 ⟨fun c => ?_, fun c => ?_⟩⟩⟩
 ·simp only [Bool.and_eq_true, beq_iff_eq, decide_eq_true_eq] at c
  have c1 : s.length = 1 := by omega
  exact ⟨⟨by omega, by omega⟩, rfl, by rw [if_neg (by omega), if_pos ⟨c1, c.2⟩], (decide_eq_true (.inr ⟨c1, c.2⟩)).symm⟩
 ·have c2 : ¬(s.length = 1 ∧ (s.getD 0 zR.dflt).q = 1) := fun e => by
   rw [show ((s.length : Int) == 1) = true from beq_iff_eq.2 (by omega), Bool.true_and, decide_eq_false_iff_not] at c
   exact c e.2
  exact ⟨rfl, by rw [if_neg (by omega), if_neg c2], (decide_eq_false fun e => by rcases e with e | e; omega; exact c2 e).symm⟩
theorem Ia {G : List (Nat × Obj)} (hG : zO G) (s : List Tm) (hs : Xl s) : zu Tryz.prog G 22 [ZA s] (.tup 3 (zw [.str (if s.length = 0 then [48] else if s.length = 1 ∧ (s.getD 0 zR.dflt).q = 1 then zW (s.getD 0 zR.dflt).c else []), .b (decide (s.length = 0 ∨ s.length = 1 ∧ (s.getD 0 zR.dflt).q = 1)), .i 0])) :=
 zv (T := (Xh G).plus 35 TJ) (an := .auto) mixed (zz.plus zq (P6 hG)) (Eq.mp (by kernel_rfl) (Jc G s hs))
theorem I8 {G : List (Nat × Obj)} (hG : zO G) : zP Tryz.prog G 22 mH := by
 intro xs ps r h hp
 unfold mH at h
 split at h
 ·skip
  rename_i x_s
  cases h
  obtain ⟨q0, q1, -⟩ := Zo hp
  exact weaken (ys := [ZA (Z5 (α := Tm) x_s)]) ⟨ze q0, trivial⟩ (Ia hG (Z5 (α := Tm) x_s) q1)
 ·cases h
structure IG (s t : List Tm) : Prop where
 fs : Xl s
 ft : Xl t
 made : Vw (s ++ yS (-1) t)
 no : YQ (s ++ yS (-1) t) = []
def Qz : List AV → Option (List zN × AV)
 | [x, y] => some ([.b (z6 Tm x), .b (z6 Tm y), .p (IG (Z5 x) (Z5 y))], .tup 2 (zw [ZA ([] : List Tm), .i 0]))
 | _ => none
theorem je {G : List (Nat × Obj)} (hG : zO G) : zP Tryz.prog G 13 Qz := by
 intro xs ps r h hp
 unfold Qz at h
 split at h
 ·rename_i x y
  cases h
  obtain ⟨q0, q1, -⟩ := Zo hp
  have q2 : IG (Z5 x) (Z5 y) := hp _ (List.mem_cons_of_mem _ (List.mem_cons_of_mem _ List.mem_cons_self))
  have := ND hG (Z5 x) (Z5 y) q2.1 q2.2 q2.3
  rw [q2.4] at this
  exact weaken (ys := [_, _]) ⟨ze q0, ze q1, trivial⟩ this
 ·cases h
theorem kL (G : List (Nat × Obj)) (s : List Tm) (t : List Tm) (h : IG s t) :
 let q1 := (AV.xl false 2 (lN s) fun i j => zR.enc (gD s i zR.dflt) j); let q2 := (AV.xl false 2 (lN t) fun i j => zR.enc (gD t i zR.dflt) j); Zy [AV.xl false 2 (lN s) fun i j => zR.enc (gD s i zR.dflt) j, AV.xl false 2 (lN t) fun i j => zR.enc (gD t i zR.dflt) j] → bF (z6 Tm q1) (bF (z6 Tm q2) (IG (Z5 q1) (Z5 q2) ∧ j2 ∧ (True ∧ kI ∧ iZ = iZ) ∧ kI ∧ iZ = iZ)) := by
 delta bF kI j2 lN gD iZ
 dsimp only
 intro hb
 simp only [↓yU, ↓ZF, row_one]
 simp only [sS, Zu, za, zS, zF, Zz, ZC, Zr, Za, ZP, Z1, ZN, V7, nN, dS]
 exact ⟨h, rfl⟩
theorem Ik {G : List (Nat × Obj)} (hG : zO G) (s : List Tm) (t : List Tm) (h : IG s t) : zu Tryz.prog G 23 [ZA s, ZA t] (.tup 2 (zw [.i 0, .i 0])) :=
 zv (T := ((Xh G).plus 13 Qz).body Tryz.prog [(41, .auto)]) (an := .auto) mixed (zz.body mixed (zz.plus zq (je hG)) _) (Eq.mp (by kernel_rfl) (kL G s t h))
end Go.Te

namespace Go.Proofs
open Go.Shelf
def Tryz.lays105_ren : Go.Shelf.Ren := ⟨fun | 105 => 116 | 212 => 156 | 99 => 44 | 165 => 157 | 166 => 158 | 170 => 159 | 169 => 160 | 263 => 187 | 264 => 188 | 206 => 82 | 240 => 189 | 241 => 190 | 276 => 211 | 277 => 212 | n => n, fun | 9 => 9 | 3 => 3 | 4 => 4 | 20 => 20 | 0 => 0 | 46 => 127 | 109 => 206 | 5 => 5 | 72 => 210 | 76 => 193 | 51 => 184 | 146 => 236 | 53 => 160 | 148 => 238 | 70 => 208 | 37 => 163 | 75 => 192 | 127 => 240 | 164 => 257 | 80 => 213 | n => n, fun | n => n⟩
theorem Tryz.lays105 : Go.Proofs.Lays.n105 Tryz.prog Tryz.lays105_ren := {
 mixed := by kernel_rfl
 f99 := Tryz.func44.trans (congrArg some (by kernel_rfl))
 f105 := Tryz.func116.trans (congrArg some (by kernel_rfl))
 f165 := Tryz.func157.trans (congrArg some (by kernel_rfl))
 f166 := Tryz.func158.trans (congrArg some (by kernel_rfl))
 f169 := Tryz.func160.trans (congrArg some (by kernel_rfl))
 f170 := Tryz.func159.trans (congrArg some (by kernel_rfl))
 f206 := Tryz.func82.trans (congrArg some (by kernel_rfl))
 f212 := Tryz.func156.trans (congrArg some (by kernel_rfl))
 f240 := Tryz.func189.trans (congrArg some (by kernel_rfl))
 f241 := Tryz.func190.trans (congrArg some (by kernel_rfl))
 f263 := Tryz.func187.trans (congrArg some (by kernel_rfl))
 f264 := Tryz.func188.trans (congrArg some (by kernel_rfl))
 f276 := Tryz.func211.trans (congrArg some (by kernel_rfl))
 f277 := Tryz.func212.trans (congrArg some (by kernel_rfl))
 t0 := Tryz.underlying0
 a0 := Tryz.isAgg0
 z0 := Tryz.sizeOf0
 v0 := Tryz.zeroValue0
 t3 := Tryz.underlying3
 a3 := Tryz.isAgg3
 z3 := Tryz.sizeOf3
 v3 := Tryz.zeroValue3
 t4 := Tryz.underlying4
 a4 := Tryz.isAgg4
 z4 := Tryz.sizeOf4
 v4 := Tryz.zeroValue4
 t5 := Tryz.underlying5
 a5 := Tryz.isAgg5
 z5 := Tryz.sizeOf5
 v5 := Tryz.zeroValue5
 t9 := Tryz.underlying9
 a9 := Tryz.isAgg9
 z9 := Tryz.sizeOf9
 v9 := Tryz.zeroValue9
 t20 := Tryz.underlying20
 a20 := Tryz.isAgg20
 z20 := Tryz.sizeOf20
 v20 := Tryz.zeroValue20
 t37 := Tryz.underlying163
 a37 := Tryz.isAgg163
 z37 := Tryz.sizeOf163
 v37 := Tryz.zeroValue163
 t46 := Tryz.underlying127
 a46 := Tryz.isAgg127
 z46 := Tryz.sizeOf127
 v46 := Tryz.zeroValue127
 t51 := Tryz.underlying184
 a51 := Tryz.isAgg184
 z51 := Tryz.sizeOf184
 v51 := Tryz.zeroValue184
 t53 := Tryz.underlying160
 a53 := Tryz.isAgg160
 z53 := Tryz.sizeOf160
 v53 := Tryz.zeroValue160
 t70 := Tryz.underlying208
 a70 := Tryz.isAgg208
 z70 := Tryz.sizeOf208
 v70 := Tryz.zeroValue208
 t72 := Tryz.underlying210
 a72 := Tryz.isAgg210
 z72 := Tryz.sizeOf210
 v72 := Tryz.zeroValue210
 t75 := Tryz.underlying192
 a75 := Tryz.isAgg192
 z75 := Tryz.sizeOf192
 v75 := Tryz.zeroValue192
 t76 := Tryz.underlying193
 a76 := Tryz.isAgg193
 z76 := Tryz.sizeOf193
 v76 := Tryz.zeroValue193
 t109 := Tryz.underlying206
 a109 := Tryz.isAgg206
 z109 := Tryz.sizeOf206
 v109 := Tryz.zeroValue206
 t127 := Tryz.underlying240
 a127 := Tryz.isAgg240
 z127 := Tryz.sizeOf240
 v127 := Tryz.zeroValue240
 t146 := Tryz.underlying236
 a146 := Tryz.isAgg236
 z146 := Tryz.sizeOf236
 v146 := Tryz.zeroValue236
 t148 := Tryz.underlying238
 a148 := Tryz.isAgg238
 z148 := Tryz.sizeOf238
 v148 := Tryz.zeroValue238
 t164 := Tryz.underlying257
 a164 := Tryz.isAgg257
 z164 := Tryz.sizeOf257
 v164 := Tryz.zeroValue257 }
theorem Tryz.Builder_Extra_105 : Builder.Extra Tryz.prog Tryz.lays105_ren := {
 sizeBuilder := by kernel_rfl
 liesBuilder := by kernel_rfl
 t5 := Tryz.underlying5
 a5 := Tryz.isAgg5
 z5 := Tryz.sizeOf5
 v5 := Tryz.zeroValue5
 infoByte := by kernel_rfl
 cellsByte := by kernel_rfl
 sizeByte := by kernel_rfl
 neB5 := by decide }
end Go.Proofs

namespace Go.Te
open Go Go.Sx Go.Proofs Go.Ar
set_option maxRecDepth 100000
set_option maxHeartbeats 4000000
theorem gB (n : Nat) : Lib.repeatL [48] n = List.replicate n (48 : UInt8) := by
 have := Lib.repeatL_replicate 48 1 n
 rwa [Nat.mul_one] at this
def rM : List AV → Option (List zN × AV)
 | [.str s, .v (.int .i64 k)] => some ([.b (s == [48]), .p (0 ≤ k ∧ k ≤ 1000000)], .str (List.replicate k.toNat 48))
 | _ => none
theorem nk : zP Tryz.prog [] 116 rM := by
 intro xs ps r h hp
 unfold rM at h
 split at h
 ·rename_i s k
  cases h
  have q : (s == [48]) = true := hp _ List.mem_cons_self
  have q1 : 0 ≤ k ∧ k ≤ 1000000 := hp _ (List.mem_cons_of_mem _ List.mem_cons_self)
  obtain rfl := eq_of_beq q
  obtain ⟨n, rfl⟩ : ∃ n : Nat, k = n := ⟨k.toNat, by omega⟩
  refine ⟨enters_of Tryz.func116 (by kernel_rfl) rfl, fun w S vals hS hg hr => ?_⟩
  match vals, hr with
  | [v, v2], ⟨hv, hv2, _⟩ =>
  obtain rfl := Z6 hv
  obtain rfl := ZR hv2
  have hsz : (⟨[48].toArray⟩ : ByteArray).size = 1 := rfl
  refine (Calls.drawn (fun e w' h => ⟨_, h.1⟩) (Any.strings_Repeat Tryz.lays105 Tryz.Builder_Extra_105 ⟨[48].toArray⟩ n w (by omega) (by show 1 * n ≤ 140737488355328; omega))).mono ?_
  rintro e w' ⟨⟨rfl, hb⟩, hd⟩
  rw [gB]
  exact ⟨⟨hb, jT hd⟩, _, rfl, .str _⟩
 ·cases h
end Go.Te

namespace Go.Te
open Go Go.Sx Go.Proofs Go.Ar Go.Lib
set_option maxRecDepth 100000
set_option maxHeartbeats 4000000
def iC (n : Nat) : yQ :=
 .two .auto (.two .auto (.two .auto (.two .auto (.two (.one (.loop Nat (fun σ z => [(4, σ.tm 4), (6, .i (z : Int))]) (fun σ z => []) 0 (fun σ z => 0 < z ∧ z ≤ 2000000000) (fun σ z => 4000000000 - z) .auto)) (.one (.loop Nat (fun σ z => [(4, σ.tm 4), (6, .i (z : Int))]) (fun σ z => []) 0 (fun σ z => 0 < z ∧ z ≤ 2000000000 ∧ n < (z + 1) * (z + 1)) (fun σ z => z) .auto))))))
def qg : List AV → Option (List zN × AV)
 | [.str a] => some ([.p (ZY a = true), .p (0 < zY a), .p (a.length ≤ 18)], .tup 2 (zw [.str (Lib.itoa (ZE (zY a).toNat)), .i 0]))
 | _ => none
theorem kQ (G : List (Nat × Obj)) (a : List UInt8) (hi : ZY a = true) (h0 : 0 < zY a) (hl : a.length ≤ 18) :
 Zy [AV.str a] → bF (ZY a) (lN a ≤ 18 ∧ (∃ (z : Nat), ((0 < z ∧ z ≤ 2000000000) ∧ (kI ∧ zY a = zY a) ∧ kI ∧ iO = (cI z)) ∧ True) ∧ ∀ (z : Nat), 0 < z ∧ z ≤ 2000000000 → bF (DB.db ((cI z) ≠ iZ)) (bF (dK (Int.tdiv (zY a) (cI z))) (zZ (zG (cI z) (Int.tdiv (zY a) (cI z))) (bF (dK ((cI z) * (2 : Int))) (∃ (z' : Nat), (((0 < z' ∧ z' ≤ 2000000000) ∧ 4000000000 - z' < 4000000000 - z) ∧ (kI ∧ zY a = zY a) ∧ kI ∧ (cI z) * (2 :
 Int) = (cI z')) ∧ True)) ((∃ (z_1 : Nat), ((0 < z_1 ∧ z_1 ≤ 2000000000 ∧ Int.toNat (zY a) < (z_1 + 1) * (z_1 + 1)) ∧ (kI ∧ zY a = zY a) ∧ kI ∧ (cI z) = (cI z_1)) ∧ True) ∧ ∀ (z : Nat), 0 < z ∧ z ≤ 2000000000 ∧ Int.toNat (zY a) < (z + 1) * (z + 1) → bF (DB.db ((cI z) ≠ iZ)) (bF (dK (Int.tdiv (zY a) (cI z))) (bF (dK ((cI z) + Int.tdiv (zY a) (cI z))) (bF (dK (Int.tdiv ((cI z) + Int.tdiv (zY a) (cI z)) (2 : Int))) (zZ (leB (cI z) (Int.tdiv
 ((cI z) + Int.tdiv (zY a) (cI z)) (2 : Int))) ((iN ≤ (cI z) ∧ (cI z) ≤ iX) ∧ j2 ∧ (True ∧ itoa (cI z) = itoa (cI (ZE (Int.toNat (zY a))))) ∧ kI ∧ iZ = iZ) (∃ (z' : Nat), (((0 < z' ∧ z' ≤ 2000000000 ∧ Int.toNat (zY a) < (z' + 1) * (z' + 1)) ∧ z' < z) ∧ (kI ∧ zY a = zY a) ∧ kI ∧ Int.tdiv ((cI z) + Int.tdiv (zY a) (cI z)) (2 : Int) = (cI z')) ∧ True))))))))) := by
 delta bF dK cI kI j2 lN iZ iO iX iN
 intro hb
 simp only [↓yU, ↓ZF, row_one]
 simp only [sS, dS]
 obtain ⟨n, hn⟩ : ∃ n : Nat, zY a = n := ⟨(zY a).toNat, by omega⟩
 have hb2 : (zY a).natAbs < 10 ^ 18 := Nat.lt_of_lt_of_le (OG hi) (Nat.pow_le_pow_right (by omega) hl)
 rw [show 10 ^ 18 = 1000000000000000000 from by decide] at hb2
 rw [hn] at hb2 h0 ⊢
 rw [Int.natAbs_natCast] at hb2
 rw [Int.toNat_natCast, hi]
 have hn0 : 0 < n := by omega
 have ed : ∀ z : Nat, (n : Int).tdiv (z : Int) = ((n / z : Nat) : Int) := fun z => by rw [Int.tdiv_eq_ediv_of_nonneg (by omega), Int.natCast_ediv]
 refine zX.2 ⟨fun _ => ⟨hl, ⟨1, by omega, rfl⟩, fun z ⟨z1, z2⟩ => ?_⟩, fun c => (by cases c)⟩
 have q1 : n / z ≤ n := Nat.div_le_self _ _
 have q2 := Nat.div_mul_le_self n z
 have q3 := Nat.lt_div_mul_add (a := n) z1
 rw [ed]
 generalize n / z = q at *
 refine ⟨by omega, by simp only [yD]; omega, fun hlt => ?_, fun hge => ⟨⟨z, ⟨z1, z2, ?_⟩, rfl⟩, fun y ⟨y1, y2, y3⟩ => ?_⟩⟩
 ·have hz9 : z * z < 1000000000 * 1000000000 := by
   have : z * z ≤ q * z := Nat.mul_le_mul_right _ (by omega)
   omega
  have := xj hz9
  exact ⟨by simp only [yD]; omega, z * 2, ⟨⟨by omega, by omega⟩, by omega⟩, by omega⟩
 ·have : q * z ≤ z * z := Nat.mul_le_mul_right _ (by omega)
  have e : (z + 1) * (z + 1) = z * z + 2 * z + 1 := by grind
  omega
 ·obtain ⟨g1, g2⟩ := jv y1 y3 hn0
  have r1 : n / y ≤ n := Nat.div_le_self _ _
  rw [ed]
  generalize n / y = r at *
  have e2 : ((y : Int) + (r : Int)).tdiv 2 = (((y + r) / 2 : Nat) : Int) := by rw [Int.tdiv_eq_ediv_of_nonneg (by omega)]; omega
  rw [e2]
  refine ⟨by omega, by simp only [yD]; omega, by simp only [yD]; omega, by simp only [yD]; omega, fun h => ⟨⟨by omega, by omega⟩, rfl, by rw [← g1 (by omega)]⟩, fun h => ⟨(y + r) / 2, ⟨⟨(g2 (by omega)).1, by omega, (g2 (by omega)).2⟩, by omega⟩, rfl⟩⟩
theorem IZ {G : List (Nat × Obj)} (hG : zO G) (a : List UInt8) (hi : ZY a = true) (h0 : 0 < zY a) (hl : a.length ≤ 18) : zu Tryz.prog G 161 [.str a] (.tup 2 (zw [.str (Lib.itoa (ZE (zY a).toNat)), .i 0])) :=
 zv (T := (KR G).plus 145 Vk) (an := iC (zY a).toNat) mixed (zz.plus (YF hG) (zP.mono So)) (Eq.mp (by kernel_rfl) (kQ G a hi h0 hl))
theorem JI {G : List (Nat × Obj)} (hG : zO G) : zP Tryz.prog G 161 qg := by
 intro xs ps r h hp
 unfold qg at h
 split at h
 ·skip
  rename_i a
  cases h
  obtain ⟨q0, q1, q2, -⟩ := Zo hp
  exact weaken (ys := [.str a]) ⟨zV _, trivial⟩ (IZ hG a q0 q1 q2)
 ·cases h
noncomputable def Ib (G : List (Nat × Obj)) : Tb := (((((((Xh G).plus 144 Vy).plus 99 ug).plus 116 rM).plus 143 uj).plus 148 Uf).plus 150 tF).plus 103 Wj |>.plus 161 qg
theorem QT {G : List (Nat × Obj)} (hG : zO G) : zz Tryz.prog (Ib G) := zz.plus (zz.plus (zz.plus (zz.plus (zz.plus (zz.plus (zz.plus (zz.plus zq (zP.mono Rl)) (zP.mono PM)) (zP.mono nk)) (zP.mono pc)) (zP.mono QF)) (zP.mono QX)) (T4 hG)) (JI hG)
def Jx (n : Nat) : yQ :=
 .two .auto (.two .auto (.two .auto (.two .auto (.two .auto (.two .auto (.two .auto (.one (.loop Nat (fun σ z => [(5, σ.tm 5), (6, ZA (zT 1000000000 z))]) (fun σ z => []) 0 (fun σ z => 0 < z ∧ n < (z + 1) * (z + 1) ∧ z ≤ 10 ^ 108) (fun σ z => z) .auto))))))))
def Mn : List AV → Option (List zN × AV)
 | [.str a] => some ([.p (ZY a = true), .p (0 < zY a), .p (a.length ≤ 216)], .tup 2 (zw [.str (Lib.itoa (ZE (zY a).toNat)), .i 0]))
 | _ => none
theorem jA (G : List (Nat × Obj)) (a : List UInt8) (hi : ZY a = true) (h0 : 0 < zY a) (hl : a.length ≤ 216) :
 let q1 := (True ∧ bA #[] = itoa (cI (ZE (Int.toNat (zY a))))); let q2 := (Int.tdiv ((lZ a) + iO) (2 : Int)); let q3 := (Int.toNat q2); let q4 := (bA #[(49 : UInt8)] ++ List.replicate q3 (48 : UInt8)); let q6 := (zT 1000000000 (Int.natAbs (zY a))); let q5 := (xI q6); let q7 := (zT 1000000000 (Int.natAbs (zY q4))); let q10 := (zt q5); let q20 := (AV.xl true 1 1 (Sx.rowAt [fun (x : Nat)
 => aI (2 : Int)])); let q19 := (zt q20); Zy [AV.str a] → lN a ≤ nM ∧ zZ (ZQ a != iZ) (j2 ∧ q1 ∧ kI ∧ ZQ a = iZ) (bF (DB.db (iZ ≤ iZ ∧ iZ < (lZ a))) (zZ ((cI (UInt8.toNat (gD a 0 (0 : UInt8)))) == (45 : Int)) (j2 ∧ q1 ∧ kI ∧ (2 : Int) = iZ) (zZ (a == bA #[(48 : UInt8)]) (j2 ∧ (True ∧ a = itoa
 (cI (ZE (Int.toNat (zY a))))) ∧ kI ∧ iZ = iZ) (ZY a = true ∧ lN a ≤ 100000000 ∧ zZ (leB (lZ a) (18 : Int)) (ZY a = true ∧ iZ < zY a ∧ lN a ≤ 18 ∧ j2 ∧ (True ∧ itoa (cI (ZE (Int.toNat (zY a)))) = itoa (cI (ZE (Int.toNat (zY a))))) ∧ kI ∧ iZ = iZ) (bF (dK ((lZ a) + iO)) (zZ (dK q2) ((iZ ≤ Int.tdiv ((lZ a) + iO) (2 : Int) ∧ Int.tdiv
 ((lZ a) + iO) (2 : Int) ≤ (1000000 : Int)) ∧ bF (DB.db (1 + lN (List.replicate q3 (48 : UInt8)) ≤ nX)) (ZY q4 = true ∧ lN q4 ≤ 100000000 ∧ (∃ (z : Nat), ((0 < z ∧ Int.toNat (zY a) < (z + 1) * (z + 1) ∧ z ≤ 1000000000000000000000000000000000000000000000000000000000000000000000000000000000000000000000000000000000000) ∧ zd q5 q5 ∧ (false = true → false = true) ∧ 1 = 1 ∧ lN (zT 1000000000 z) = lN q7 ∧ ∀ (i j : Nat), i < lN q7 → j < 1 → kI ∧ gD q7 i zR.dflt = gD (zT
 1000000000 z) i zR.dflt) ∧ True) ∧ ∀ (z : Nat), let q9 := (xI (zT 1000000000 z)); let q8 := (z6 Int q9); let q12 := (zt q9); let q11 := (∀ (x : Int), List.Mem x q12 → iZ ≤ x ∧ x < iB); let q14 := (zT 1000000000 (Int.toNat (zU iB q10) / Int.toNat (zU iB q12))); let q13 := (xI q14); let q15 := (zt q13); let q17 := (zT 1000000000
 (Int.toNat (zU iB q12 + zU iB q15))); let q16 := (xI q17); let q18 := (zt q16); let q23 := (zU iB q18); let q22 := (zT 1000000000 (Int.toNat q23 / Int.toNat (zU iB q19))); let q21 := (xI q22); let q25 := (AV.agg 2 (zw [AV.v (Array.getD (Value.cells (Value.agg #[Value.bool false, Value.slice (X7 Addr) 0 0])) 0 undef), AV.xl false 1 (List.length
 (zT 1000000000 z)) fun i j => aI (gD (zT 1000000000 z) i zR.dflt)])); let q27 := (yR q25); let q26 := (Big.l q27); let q28 := (yB (Big.neg q27) q26); 0 < z ∧ Int.toNat (zY a) < (z + 1) * (z + 1) ∧ z ≤ 1000000000000000000000000000000000000000000000000000000000000000000000000000000000000000000000000000000000000 → bF (z6 Int q5) (bF q8 ((∀ (x : Int), List.Mem x q10 → iZ ≤ x ∧ x < iB) ∧ q11 ∧ zh q10 = zt q5 ∧ zh q12 = zt q9 ∧ lN q12 ≠ 0 ∧ lN q10 ≤ 100000000 ∧ lN q12 ≤ 100000000 ∧ zZ
 q8 (bF (z6 Int q13) (q11 ∧ (∀ (x : Int), List.Mem x q15 → iZ ≤ x ∧ x < iB) ∧ lN q12 ≤ 1000000000 ∧ lN q15 ≤ 1000000000 ∧ bF (z6 Int q16) ((∀ (x : Int), List.Mem x q18 → iZ ≤ x ∧ x < iB) ∧ (∀ (x : Int), List.Mem x (zt (AV.xl true 1 1 (Sx.rowAt [fun (x : Nat) => aI (2 : Int)]))) → iZ ≤ x ∧ x < iB) ∧ zh q18 = zt q16 ∧ zh q19 = zt q20 ∧ lN q19 ≠ 0 ∧ lN q18 ≤ 100000000 ∧ lN q19 ≤ 100000000 ∧ bF (z6 Int q21) (bF q8 ((∀ (x : Int),
 let q24 := (zT 1000000000 (Int.toNat q23 / Int.toNat (zU iB (zt (AV.xl true 1 1 (Sx.rowAt [fun (x : Nat) => aI (2 : Int)])))))); List.Mem x (zt (xI q24)) → iZ ≤ x ∧ x < iB) ∧ q11 ∧ zZ (leB iZ (Ar.cmpL (zt q21) q12)) (bF (yp Big q25) ((∀ (x : Int), List.Mem x q26 → iZ ≤ x ∧ x < iB) ∧ zh q26 = Big.l q27 ∧ lN q26 ≤ 100000000 ∧ j2 ∧ (True ∧ YK q28 = itoa
 (cI (ZE (Int.toNat (zY a))))) ∧ kI ∧ Zl q28 = iZ)) (∃ (z' : Nat), (((0 < z' ∧ Int.toNat (zY a) < (z' + 1) * (z' + 1) ∧ z' ≤ 1000000000000000000000000000000000000000000000000000000000000000000000000000000000000000000000000000000000000) ∧ z' < z) ∧ zd q5 q5 ∧ (false = true → false = true) ∧ 1 = 1 ∧ lN (zT 1000000000 z') = lN q22 ∧ ∀ (i j : Nat), i < lN q22 → j < 1 → kI ∧ gD q22 i zR.dflt = gD (zT 1000000000 z') i zR.dflt) ∧ True)))))) False))))
 False)))))) := by
 delta bF dK bA xI nX nM cI kI j2 lZ lN gD iZ iO iB aI
 dsimp only
 intro hb
 have e0 : (zR.dflt : Int) = 0 := rfl
 simp only [↓yU, ↓ZF, row_one]
 have hE : ZQ a = 0 := yt.2 ⟨hi, by have := (wM a).1; omega⟩
 obtain ⟨n, hn⟩ : ∃ n : Nat, zY a = n := ⟨(zY a).toNat, by omega⟩
 have hb2 : (zY a).natAbs < 10 ^ a.length := OG hi
 rw [hn, Int.natAbs_natCast] at hb2
 have h48 : (a == [48]) = false := beq_eq_false_iff_ne.2 fun e => by
  rw [e] at h0
  exact absurd h0 (by decide)
 have h45 : ((a.getD 0 0).toNat : Int) ≠ 45 := fun e => by
  rcases yI hi with ⟨r, rfl, _, _, g3⟩ | ⟨g1, g3⟩
  ·rw [g3] at h0; omega
  ·have hm : zk a = false := by
    cases hm : zk a with
    | false => rfl
    | true =>
     match a, hm, g1 with
     | c :: r, hm, g1 =>
      have hc : c = 45 := eq_of_beq hm
      subst hc
      exact (wo g1).elim
   match a, g1, e, hm with
   | c :: r, g1, e, hm =>
    have e : (c.toNat : Int) = 45 := e
    have : c = 45 := UInt8.toNat.inj (by show c.toNat = 45; omega)
    rw [this] at hm
    cases hm
 have hl0 : 0 < a.length := Nat.pos_of_ne_zero fun e => by rw [List.eq_nil_of_length_eq_zero e] at hi; cases hi
 simp only [sS, dS, e0, Xs, xW, xd, Ya, wP, XU, X9, x9, XB, K7, xL, K1, my, pr]
 have ek : ((a.length : Int) + 1).tdiv 2 = (((a.length + 1) / 2 : Nat) : Int) := by rw [Int.tdiv_eq_ediv_of_nonneg (by omega)]; omega
 have hk : 10 ^ a.length ≤ 10 ^ ((a.length + 1) / 2) * 10 ^ ((a.length + 1) / 2) := by
  rw [← Nat.pow_add]
  exact Nat.pow_le_pow_right (by omega) (by omega)
 have hk2 : 10 ^ ((a.length + 1) / 2) ≤ 10 ^ 108 := Nat.pow_le_pow_right (by omega) (by omega)
 have hk3 : 0 < 10 ^ ((a.length + 1) / 2) := Nat.pow_pos (by omega)
 have hl2 := wG (n := n) (k := 216) (Nat.lt_of_lt_of_le hb2 (Nat.pow_le_pow_right (by omega) hl))
 rw [hE, ek, Int.toNat_natCast, hn, Int.toNat_natCast, Int.natAbs_natCast]
 rw [hn] at h0
 have hn0 : 0 < n := by omega
 refine ⟨by omega, fun h => absurd rfl h, fun _ => ⟨⟨by omega, by omega⟩, fun h => absurd h h45, fun _ => zX.2 ⟨fun c => (by rw [h48] at c; cases c), fun _ => ⟨hi, by omega, fun h => ⟨hi, by omega, by omega, rfl⟩, fun h18 => ?_⟩⟩⟩⟩
 obtain ⟨t1, t2⟩ := Pu ((a.length + 1) / 2)
 have et : ([49] ++ List.replicate ((a.length + 1) / 2) 48 : zj) = 49 :: List.replicate ((a.length + 1) / 2) 48 := rfl
 rw [et, t2, Int.natAbs_natCast]
 generalize hKK : (a.length + 1) / 2 = K at *
 generalize 10 ^ K = Z at *
 refine ⟨by simp only [yD]; omega, by simp only [yD]; omega, ⟨by omega, by omega⟩, by rw [List.length_replicate]; omega, t1, by rw [List.length_cons, List.length_replicate]; omega, ⟨Z, ⟨hk3, ?_, hk2⟩, fun h => h, rfl, fun _ _ _ _ => rfl⟩, fun z ⟨z1, z2, z3⟩ => ?_⟩
 ·have e : (Z + 1) * (Z + 1) = Z * Z + 2 * Z + 1 := by grind
  omega
 have z3 : z ≤ 10 ^ 108 := Nat.le_trans z3 (Nat.le_of_eq (by decide))
 obtain ⟨g1, g2⟩ := jv z1 z2 hn0
 have q1 : n / z ≤ n := Nat.div_le_self _ _
 have lz := wG (n := z) (k := 109) (Nat.lt_of_le_of_lt z3 (Nat.pow_lt_pow_right (by omega) (by omega)))
 have lq := yz (b := 1000000000) (by omega) q1
 have lz0 : (zT 1000000000 z).length ≠ 0 := fun e => by have := Xc (b := 1000000000) (by omega) e; omega
 generalize n / z = q at *
 have e2 : ((z : Int) + (q : Int)).toNat = z + q := by omega
 have e3 : Int.toNat 2 = 2 := rfl
 have hs : z + q < 10 ^ 217 := by
  have b1 : n < 10 ^ 216 := Nat.lt_of_lt_of_le hb2 (Nat.pow_le_pow_right (by omega) hl)
  have b2 : z < 10 ^ 216 := Nat.lt_of_le_of_lt z3 (Nat.pow_lt_pow_right (by omega) (by omega))
  have e : (10 : Nat) ^ 217 = 10 ^ 216 * 10 := rfl
  omega
 have ls := wG hs
 have o2 : Zp 1000000000 [2] := .one (by omega) (by omega)
 have cl := Ri (x := zT 1000000000 ((z + q) / 2)) (y := zT 1000000000 z) (Zf _).1 (Zf _).1 (Zf _).2 (Zf _).2
 rw [xL, xL] at cl
 rw [e2, e3]
 refine ⟨(Zf _).1, (Zf _).1, (Zf _).2, (Zf _).2, lz0, by omega, by omega, (Zf _).1, (Zf _).1, by omega, by omega, (Zf _).1, o2, (Zf _).2, by decide, by decide, by omega, by decide, (Zf _).1, (Zf _).1, fun hc => ?_, fun hc => ?_⟩
 ·have hle : z ≤ (z + q) / 2 := by have := cl.1 hc; omega
  have e := g1 hle
  obtain ⟨r1, r2⟩ := ZO (n := (z : Int)) (k := 109) (by omega) (by omega) (by rw [Int.natAbs_natCast]; exact Nat.lt_of_le_of_lt z3 (Nat.pow_lt_pow_right (by omega) (by omega)))
  rw [wB, cond_false, r1, r2, ← e]
  exact ⟨(Zf _).1, (Zf _).2, by omega, rfl, rfl, rfl⟩
 ·have hlt : (z + q) / 2 < z := by
   refine Nat.lt_of_not_le fun hle => ?_
   have := cl.2 (by omega)
   omega
  obtain ⟨k1, k2⟩ := g2 hlt
  exact ⟨(z + q) / 2, ⟨⟨k1, k2, by omega⟩, hlt⟩, fun h => h, rfl, fun _ _ _ _ => rfl⟩
theorem Hz {G : List (Nat × Obj)} (hG : zO G) (a : List UInt8) (hi : ZY a = true) (h0 : 0 < zY a) (hl : a.length ≤ 216) : zu Tryz.prog G 117 [.str a] (.tup 2 (zw [.str (Lib.itoa (ZE (zY a).toNat)), .i 0])) :=
 zv (T := Ib G) (an := Jx (zY a).toNat) mixed (QT hG) (Eq.mp (by kernel_rfl) (jA G a hi h0 hl))
theorem IF {G : List (Nat × Obj)} (hG : zO G) : zP Tryz.prog G 117 Mn := by
 intro xs ps r h hp
 unfold Mn at h
 split at h
 ·skip
  rename_i a
  cases h
  obtain ⟨q0, q1, q2, -⟩ := Zo hp
  exact weaken (ys := [.str a]) ⟨zV _, trivial⟩ (Hz hG a q0 q1 q2)
 ·cases h
end Go.Te
