/- surd: Check, Mul and Value of surds of one term; slope.Inverse. -/
import Derived.Test.YtinnclmkhedgeaaGreatDoorTfL
set_option linter.unusedSimpArgs false
set_option linter.unusedVariables false
namespace Go.Te
open Go Go.Sx Go.Proofs Go.Ar
set_option maxRecDepth 100000
set_option maxHeartbeats 4000000
noncomputable def ny : Tb := (T0.plus 271 uM).body Tryz.prog [(225, .auto)]
theorem Sk : zz Tryz.prog ny := zz.body mixed (zz.plus zq R4) _
theorem Q3 (s : List UInt8) (h : zT s = false) :
 zb [AV.str s, AV.str [(47 : UInt8)]] → leB iZ (Lib.indexByte s (47 : UInt8)) = false := by
 delta iZ
 intro hb
 refine Bool.eq_false_iff.2 fun e => ?_
 obtain ⟨z, _, hlt, _, hc⟩ := (uJ 47 s).1 ((ZY _ _).1 e)
 have : zT s = true := List.any_eq_true.2 ⟨s.getD z 0, tx hlt, by rw [hc]; rfl⟩
 rw [h] at this
 cases this
def uL : List AV → Option (List zO × AV)
 | [.str s, .str p] => some ([.b (p == [47]), .p (zT s = false)], .b false)
 | _ => none
theorem Qq : zP Tryz.prog [] 167 uL := by
 intro xs ps r h hp
 unfold uL at h
 split at h
 ·rename_i s p
  cases h
  have q : (p == [47]) = true := hp _ List.mem_cons_self
  have q1 : zT s = false := hp _ (List.mem_cons_of_mem _ List.mem_cons_self)
  obtain rfl := eq_of_beq q
  exact zW mixed Sk (Eq.mp (by kernel_rfl) (Q3 s q1) : vG Tryz.prog ny 167 .auto [.str s, .str [47]] (.b false))
 ·cases h
def VJ (t : Pt) : Prop := zZ t.n = true ∧ zv t.n ≠ 0 ∧ ∃ l : Nat, t.d = Lib.itoa (l : Int) ∧ 0 < l ∧ l < 10000000000000000 ∧ yt l = (1, l)
theorem TU {l : Nat} (h0 : 0 < l) (h : l < 10000000000000000) : po (Lib.itoa (l : Int)) ∧ zE (Lib.itoa (l : Int)) = false := by
 obtain ⟨h1, h2, h3⟩ := tI (l := l) (by omega)
 obtain ⟨e1, e2, e3, _⟩ := Yh (l : Int)
 have hn : vk (l : Int) ≤ 16 := Y7 (by decide) (by rw [Int.natAbs_natCast]; exact Nat.lt_of_lt_of_le h (by decide))
 have hl : (zp (Lib.itoa (l : Int))).length ≤ 16 := by
  rw [(yx e3).1, YZ, if_neg (by omega)]
  exact hn
 have hr : po (Lib.itoa (l : Int)) := ⟨h1, by rw [e1]; omega, by omega⟩
 exact ⟨hr, sr hr⟩
noncomputable def O7 (G : List (Nat × Obj)) : Tb := (((((wB G).plus 79 wo).plus 80 YB).plus 132 w6).plus 83 Wz).plus 167 uL
theorem Sl {G : List (Nat × Obj)} (hG : zN G) : zz Tryz.prog (O7 G) := zz.plus (zz.plus (zz.plus (zz.plus (zz.plus zq (zP.mono VB)) (zP.mono X9)) (sY hG)) (zP.mono sK)) (zP.mono Qq)
def vq : List AV → Option (List zO × AV)
 | [.agg 2 p_t] => some ([.b (ZT (p_t 0) && ZT (p_t 1)), .p (VJ (⟨AV.bytes (p_t 0), AV.bytes (p_t 1)⟩ : Pt))], .i 0)
 | _ => none
theorem Sp (G : List (Nat × Obj)) (t : Pt) (ht : VJ t) :
 let q1 := (Zr (Pt.n t) = iZ ∧ (zZ (Pt.n t) = true ∨ zT (Pt.n t) = false)); let q3 := (zZ (Pt.d t) = true ∨ zT (Pt.d t) = false); let q2 := (Zr (Pt.d t) = iZ ∧ q3); let q4 := (ByteArray.data (ByteArray.mk #[(48 : UInt8)])); let q5 := (!zQ false (zA (60 : Int) (xU (Pt.n t))) || zQ false (zA (60 : Int) (xU (Pt.n t)))); let q6 := (ByteArray.data (ByteArray.mk #[(49 : UInt8)])); let q7 := (kI ∧ iZ = iZ); let q9 := (bif false then true else Pt.d t == Array.toList q4); let q8 := (!zQ false q9 || zQ false q9); let q10 :=
 (kI ∧ (8 : Int) = iZ); let q12 := (bif iZ != iZ then true else !zY (cI (k1 (Pt.d t))) (zU (Pt.d t)) == Array.toList q6); let q11 := (!zQ false q12 || zQ false q12); zb [AV.agg 2 (yI.enc t)] → q1 ∧ q2 ∧ zV (Pt.n t == Array.toList q4) (kI ∧ (12 : Int) = iZ) (q1 ∧ bF q5 (bF q5 ((zQ false (zA (60 : Int) (xU (Pt.n t))) = true → Zr (Pt.d t) = iZ ∧ q3) ∧ bF q5 (bF (!!zA (60 : Int) (xU (Pt.n t)) || zQ false (zA (60 : Int) (xU (Pt.n t)))) (zV (bif zA (60 : Int) (xU (Pt.n t)) then
 true else zA (40 : Int) (xU (Pt.d t))) (kI ∧ (4 : Int) = iZ) (zV (Pt.d t == Array.toList q6) q7 (zE (Pt.d t) = false ∧ bF q8 (bF q8 (bF (!zQ false q9 || bA #[(47 : UInt8)] == [(47 : UInt8)]) ((zQ false q9 = true → zT (Pt.d t) = false) ∧ bF ((!!bif false then true else Pt.d t == Array.toList q4) || zQ false q9) (zV (bif bif false then true else Pt.d t == Array.toList q4 then true else false) q10 ((q2 ∧ iZ < zv (Pt.d t) ∧ lN (zp (Pt.d t)) + lN (za (Pt.d t)) ≤ 17)
 ∧ bF q11 (bF q11 (bF q11 (bF ((!!bif iZ != iZ then true else !zY (cI (k1 (Pt.d t))) (zU (Pt.d t)) == Array.toList q6) || zQ false q12) (zV (bif bif iZ != iZ then true else !zY (cI (k1 (Pt.d t))) (zU (Pt.d t)) == Array.toList q6 then true else !Lib.itoa (cI (l1 (Pt.d t))) == Pt.d t) q10 q7)))))))))))))))) := by
 delta bF bA cI kI lN iZ
 dsimp only
 intro hb
 simp only [sS, dS]
 obtain ⟨c1, c2, l, e, l0, lb, ln⟩ := ht
 obtain ⟨tn, td⟩ := t
 simp only at *
 subst e
 obtain ⟨rt, hm⟩ := TU l0 lb
 obtain ⟨e1, e2, e3, _⟩ := Yh (l : Int)
 obtain ⟨k1, k2⟩ := TK l
 rw [ln] at k1 k2
 obtain ⟨x1, x2, x3⟩ := X7 c1
 obtain ⟨_, i1, i2⟩ := tI (l := l) (by omega)
 have Lx := WQ (a := tn) (k := 20) (by omega) (by omega) 60 (by omega)
 have L40 := WQ (a := Lib.itoa (l : Int)) (k := 20) (by omega) (by omega) 40 (by omega)
 have n0 : (Lib.itoa (l : Int) == [48]) = false := si (by rw [e1]; omega)
 have hX : zY ((1 : Nat) : Int) 1 = [49] := Zh.symm
 rw [si c2, Lx, L40, n0, k1, k2, e2, hX]
 refine ⟨x9 c1, rt.1, x9 c1, fun _ => rt.1, ?_⟩
 show zV (Lib.itoa (l : Int) == [49]) _ _
 refine zR.2 ⟨fun _ => trivial, fun _ => ⟨hm, fun _ => e3, rt, ?_⟩⟩
 refine zR.2 ⟨fun c => ?_, fun _ => trivial⟩
 simp at c
theorem RS {G : List (Nat × Obj)} (hG : zN G) (t : Pt) (ht : VJ t) : zu Tryz.prog G 120 [vz t] (.i 0) :=
 zW (T := O7 G) (an := .auto) mixed (Sl hG) (Eq.mp (by kernel_rfl) (Sp G t ht))
theorem RV {G : List (Nat × Obj)} (hG : zN G) : zP Tryz.prog G 120 vq := by
 intro xs ps r h hp
 unfold vq at h
 split at h
 ·skip
  rename_i p_t
  cases h
  obtain ⟨q0, q1, -⟩ := Zv hp
  exact weaken (ys := [vz (⟨AV.bytes (p_t 0), AV.bytes (p_t 1)⟩ : Pt)]) ⟨yU (x := .agg 2 p_t) (α := Pt) q0, trivial⟩ (RS hG (⟨AV.bytes (p_t 0), AV.bytes (p_t 1)⟩ : Pt) q1)
 ·cases h
def Pn  : yw :=
 .two .auto (.two .auto (.two (.two .auto (.one (.unroll 2 .auto))) .auto))
def rL : List AV → Option (List zO × AV)
 | [.xl f_t 2 1 x_t] => some ([.b (ZT (x_t 0 0) && ZT (x_t 0 1)), .p (VJ (⟨AV.bytes (x_t 0 0), AV.bytes (x_t 0 1)⟩ : Pt))], .i 0)
 | _ => none
theorem PF (G : List (Nat × Obj)) (t : Pt) (ht : VJ t) :
 let q3 := (fun (i : Nat) => if 0 ≤ i ∧ i < 0 + TypeInfo.size (Tables.types (Program.toTables Tryz.prog))[51] then (fun (i : Nat) => (fun (x : Nat) => zX [AV.str (Pt.n t), AV.str (Pt.d t)]) (Int.toNat iZ) (0 + i)) (i - 0) else yB (Value.agg #[Value.string (ByteArray.mk #[]), Value.string (ByteArray.mk #[])]) i); let q2 := (Pt.mk (AV.bytes (q3 0)) (AV.bytes (q3 1))); let q1 := (Pt.n q2); zb [AV.xl false 2 1 fun (x i : Nat) => Option.getD [AV.str (Pt.n t), AV.str (Pt.d t)][i]? AV.junk] → (zZ q1 = true ∧ zv q1 ≠ iZ ∧ ∃ (l : Nat), Pt.d q2 = Lib.itoa (cI l) ∧ 0 < l ∧ l
 < 10000000000000000 ∧ yt l = (1, l)) ∧ kI ∧ iZ = iZ := by
 delta cI kI iZ
 dsimp only
 intro hb
 simp only [sS, dS]
 exact ht
theorem oL {G : List (Nat × Obj)} (hG : zN G) (t : Pt) (ht : VJ t) : zu Tryz.prog G 74 [.xl false 2 1 (fun _ => zX [.str t.n, .str t.d])] (.i 0) :=
 zW (T := (wB G).plus 120 vq) (an := Pn) mixed (zz.plus zq (RV hG)) (Eq.mp (by kernel_rfl) (PF G t ht))
theorem oK {G : List (Nat × Obj)} (hG : zN G) : zP Tryz.prog G 74 rL := by
 intro xs ps r h hp
 unfold rL at h
 split at h
 ·skip
  rename_i f_t x_t
  cases h
  obtain ⟨q0, q1, -⟩ := Zv hp
  exact weaken (ys := [.xl false 2 1 (fun _ => zX [.str (⟨AV.bytes (x_t 0 0), AV.bytes (x_t 0 1)⟩ : Pt).n, .str (⟨AV.bytes (x_t 0 0), AV.bytes (x_t 0 1)⟩ : Pt).d])]) ⟨Y0 q0, trivial⟩ (oL hG (⟨AV.bytes (x_t 0 0), AV.bytes (x_t 0 1)⟩ : Pt) q1)
 ·cases h
noncomputable def qp (G : List (Nat × Obj)) : Tb := (((((wB G).plus 74 rL).plus 18 wu).plus 39 UI).plus 52 WU).plus 50 wy |>.plus 45 WY
theorem Xk {G : List (Nat × Obj)} (hG : zN G) : zz Tryz.prog (qp G) := zz.plus (zz.plus (zz.plus (zz.plus (zz.plus (zz.plus zq (oK hG)) (Vf hG)) (Rx hG)) (tV hG)) (ue hG)) (sN hG)
def pf  : yw :=
 .two .auto (.two .auto (.two .auto (.two (.two .auto (.one (.unroll 2 .auto))) .auto)))
def UY : List AV → Option (List zO × AV)
 | [.xl f_s 2 1 x_s, .xl f_t 2 1 x_t] => some ([.b (ZT (x_s 0 0) && ZT (x_s 0 1)), .b (ZT (x_t 0 0) && ZT (x_t 0 1)), .p (VJ (⟨AV.bytes (x_s 0 0), AV.bytes (x_s 0 1)⟩ : Pt)), .p (VJ (⟨AV.bytes (x_t 0 0), AV.bytes (x_t 0 1)⟩ : Pt)), .p (zZ (⟨AV.bytes (x_s 0 0), AV.bytes (x_s 0 1)⟩ : Pt).d = true), .p (zZ (⟨AV.bytes (x_t 0 0), AV.bytes (x_t 0 1)⟩ : Pt).d = true), .p (Uz ⟨zM (⟨AV.bytes (x_s 0 0), AV.bytes (x_s 0 1)⟩ : Pt).n (⟨AV.bytes (x_t 0 0), AV.bytes (x_t 0 1)⟩ : Pt).n, zM (⟨AV.bytes (x_s 0 0), AV.bytes (x_s 0 1)⟩ : Pt).d (⟨AV.bytes (x_t 0 0), AV.bytes (x_t 0 1)⟩ : Pt).d⟩)], .tup 2 (zX [.xl false 2 1 (fun _ => zX [.str (ZG (zM (⟨AV.bytes (x_s 0 0), AV.bytes (x_s 0 1)⟩ : Pt).n (⟨AV.bytes (x_t 0 0), AV.bytes (x_t 0 1)⟩ : Pt).n) (zM (⟨AV.bytes (x_s 0 0), AV.bytes (x_s 0 1)⟩ : Pt).d (⟨AV.bytes (x_t 0 0), AV.bytes (x_t 0 1)⟩ : Pt).d)), .str (Lib.itoa (l1 (zM (⟨AV.bytes (x_s 0 0), AV.bytes (x_s 0 1)⟩ : Pt).d (⟨AV.bytes (x_t 0 0), AV.bytes (x_t 0 1)⟩ : Pt).d) : Int))]), .i 0]))
 | _ => none
theorem ov (G : List (Nat × Obj)) (s : Pt) (t : Pt) (hs : VJ s) (ht : VJ t) (hd1 : zZ s.d = true) (hd2 : zZ t.d = true) (hm : Uz ⟨zM s.n t.n, zM s.d t.d⟩) :
 let q2 := (Pt.mk (AV.bytes (AV.str (Pt.n s))) (AV.bytes (AV.str (Pt.d s)))); let q1 := (Pt.n q2); let q4 := (Pt.mk (AV.bytes (AV.str (Pt.n t))) (AV.bytes (AV.str (Pt.d t)))); let q3 := (Pt.n q4); let q6 := (Pt.mk (AV.bytes (AV.str (zM (Pt.n s) (Pt.n t)))) (AV.bytes (AV.str (zM (Pt.d s) (Pt.d t))))); let q5 := (Pt.n q6); let q7 := (Pt.d q6); let q8 := (ZG q5 q7); zb [AV.xl false 2 1 fun (x i : Nat) => Option.getD [AV.str (Pt.n s), AV.str (Pt.d s)][i]? AV.junk, AV.xl false 2 1 fun (x i : Nat) => Option.getD [AV.str (Pt.n t), AV.str (Pt.d t)][i]? AV.junk] → (zZ q1 = true ∧ zv q1 ≠ (0 :
 Int) ∧ ∃ (l : Nat), Pt.d q2 = Lib.itoa (cI l) ∧ 0 < l ∧ l < 10000000000000000 ∧ yt l = (1, l)) ∧ (zQ true (iZ == iZ) = true → zZ q3 = true ∧ zv q3 ≠ iZ ∧ ∃ (l : Nat), Pt.d q4 = Lib.itoa (cI l) ∧ 0 < l ∧ l < 10000000000000000 ∧ yt l = (1, l)) ∧ zZ (Pt.n s) = true ∧ zZ (Pt.n t) = true ∧ zZ (Pt.d s) = true ∧ zZ (Pt.d t) = true ∧ (zZ q5 = true ∧ zv q5 ≠ iZ ∧ ((Zr q7 = iZ ∧ (zZ q7 = true ∨ zT q7 = false)) ∧ iZ < zv q7 ∧ lN (zp q7) + lN (za q7) ≤ 17) ∧ zZ (zY (cI (k1 q7)) (zU q7)) = true ∧
 zZ q8 = true) ∧ j2 ∧ (True ∧ yu (AV.xl false 2 1 fun (x i : Nat) => Option.getD [AV.str q8, AV.str (Lib.itoa (cI (l1 q7)))][i]? AV.junk) (AV.xl false 2 1 fun (x i : Nat) => Option.getD [AV.str (ZG (zM (Pt.n s) (Pt.n t)) (zM (Pt.d s) (Pt.d t))), AV.str (Lib.itoa (cI (l1 (zM (Pt.d s) (Pt.d t)))))][i]? AV.junk)) ∧ kI ∧ iZ = iZ := by
 delta cI kI j2 lN iZ
 dsimp only
 intro hb
 simp only [sS, dS]
 exact ⟨hs, fun _ => ht, hs.1, ht.1, hd1, hd2, hm, rfl, zw _⟩
theorem OW {G : List (Nat × Obj)} (hG : zN G) (s : Pt) (t : Pt) (hs : VJ s) (ht : VJ t) (hd1 : zZ s.d = true) (hd2 : zZ t.d = true) (hm : Uz ⟨zM s.n t.n, zM s.d t.d⟩) : zu Tryz.prog G 36 [.xl false 2 1 (fun _ => zX [.str s.n, .str s.d]), .xl false 2 1 (fun _ => zX [.str t.n, .str t.d])] (.tup 2 (zX [.xl false 2 1 (fun _ => zX [.str (ZG (zM s.n t.n) (zM s.d t.d)), .str (Lib.itoa (l1 (zM s.d t.d) : Int))]), .i 0])) :=
 zW (T := (qp G).body Tryz.prog [(77, .auto)]) (an := pf) mixed (zz.body mixed (Xk hG) _) (Eq.mp (by kernel_rfl) (ov G s t hs ht hd1 hd2 hm))
theorem qs {G : List (Nat × Obj)} (hG : zN G) : zP Tryz.prog G 36 UY := by
 intro xs ps r h hp
 unfold UY at h
 split at h
 ·skip
  rename_i f_s x_s f_t x_t
  cases h
  obtain ⟨q0, q1, q2, q3, q4, q5, q6, -⟩ := Zv hp
  exact weaken (ys := [.xl false 2 1 (fun _ => zX [.str (⟨AV.bytes (x_s 0 0), AV.bytes (x_s 0 1)⟩ : Pt).n, .str (⟨AV.bytes (x_s 0 0), AV.bytes (x_s 0 1)⟩ : Pt).d]), .xl false 2 1 (fun _ => zX [.str (⟨AV.bytes (x_t 0 0), AV.bytes (x_t 0 1)⟩ : Pt).n, .str (⟨AV.bytes (x_t 0 0), AV.bytes (x_t 0 1)⟩ : Pt).d])]) ⟨Y0 q0, Y0 q1, trivial⟩ (OW hG (⟨AV.bytes (x_s 0 0), AV.bytes (x_s 0 1)⟩ : Pt) (⟨AV.bytes (x_t 0 0), AV.bytes (x_t 0 1)⟩ : Pt) q2 q3 q4 q5 q6)
 ·cases h
def qx : List AV → Option (List zO × AV)
 | [.xl f_s 2 1 x_s] => some ([.b (ZT (x_s 0 0) && ZT (x_s 0 1)), .p (VJ (⟨AV.bytes (x_s 0 0), AV.bytes (x_s 0 1)⟩ : Pt))], .tup 3 (zX [.str (bif (⟨AV.bytes (x_s 0 0), AV.bytes (x_s 0 1)⟩ : Pt).d == [49] then (⟨AV.bytes (x_s 0 0), AV.bytes (x_s 0 1)⟩ : Pt).n else []), .b ((⟨AV.bytes (x_s 0 0), AV.bytes (x_s 0 1)⟩ : Pt).d == [49]), .i 0]))
 | _ => none
theorem pE (G : List (Nat × Obj)) (s : Pt) (hs : VJ s) :
 zb [AV.xl false 2 1 fun (x i : Nat) => Option.getD [AV.str (Pt.n s), AV.str (Pt.d s)][i]? AV.junk] → (zZ (Pt.n (Pt.mk (AV.bytes (AV.str (Pt.n s))) (AV.bytes (AV.str (Pt.d s))))) = true ∧ zv (Pt.n (Pt.mk (AV.bytes (AV.str (Pt.n s))) (AV.bytes (AV.str (Pt.d s))))) ≠ iZ ∧ ∃ (l : Nat), Pt.d (Pt.mk (AV.bytes (AV.str (Pt.n s))) (AV.bytes (AV.str (Pt.d s)))) = Lib.itoa (cI l) ∧ 0 < l ∧ l < 10000000000000000 ∧ yt l = (1, l)) ∧ zV (bif (↑1 : Int) == iO then Pt.d s == bA #[(49 : UInt8)] else false) (3 = lN [AV.junk, AV.junk,
 AV.junk] ∧ ((True ∧ Pt.n s = bif Pt.d s == [(49 : UInt8)] then Pt.n s else []) ∧ true = (Pt.d s == [(49 : UInt8)])) ∧ kI ∧ iZ = iZ) (3 = lN [AV.junk, AV.junk, AV.junk] ∧ ((True ∧ bA #[] = bif Pt.d s == [(49 : UInt8)] then Pt.n s else []) ∧ false = (Pt.d s == [(49 : UInt8)])) ∧ kI ∧ iZ = iZ) := by
 delta bA cI kI lN iZ iO
 intro hb
 simp only [sS, dS]
 refine ⟨hs, ?_⟩
 cases s.d == [49] <;> exact ⟨rfl, rfl, rfl⟩
theorem OK {G : List (Nat × Obj)} (hG : zN G) (s : Pt) (hs : VJ s) : zu Tryz.prog G 86 [.xl false 2 1 (fun _ => zX [.str s.n, .str s.d])] (.tup 3 (zX [.str (bif s.d == [49] then s.n else []), .b (s.d == [49]), .i 0])) :=
 zW (T := qp G) (an := .auto) mixed (Xk hG) (Eq.mp (by kernel_rfl) (pE G s hs))
theorem Ow {G : List (Nat × Obj)} (hG : zN G) : zP Tryz.prog G 86 qx := by
 intro xs ps r h hp
 unfold qx at h
 split at h
 ·skip
  rename_i f_s x_s
  cases h
  obtain ⟨q0, q1, -⟩ := Zv hp
  exact weaken (ys := [.xl false 2 1 (fun _ => zX [.str (⟨AV.bytes (x_s 0 0), AV.bytes (x_s 0 1)⟩ : Pt).n, .str (⟨AV.bytes (x_s 0 0), AV.bytes (x_s 0 1)⟩ : Pt).d])]) ⟨Y0 q0, trivial⟩ (OK hG (⟨AV.bytes (x_s 0 0), AV.bytes (x_s 0 1)⟩ : Pt) q1)
 ·cases h
def uW : List AV → Option (List zO × AV)
 | [.xl f_t 2 1 x_t] => some ([.b (ZT (x_t 0 0) && ZT (x_t 0 1)), .p (VJ (⟨AV.bytes (x_t 0 0), AV.bytes (x_t 0 1)⟩ : Pt)), .p (zZ (⟨AV.bytes (x_t 0 0), AV.bytes (x_t 0 1)⟩ : Pt).d = true), .p (nz (zM (⟨AV.bytes (x_t 0 0), AV.bytes (x_t 0 1)⟩ : Pt).n (⟨AV.bytes (x_t 0 0), AV.bytes (x_t 0 1)⟩ : Pt).d)), .p (Uz ⟨zI [49] (zM (⟨AV.bytes (x_t 0 0), AV.bytes (x_t 0 1)⟩ : Pt).n (⟨AV.bytes (x_t 0 0), AV.bytes (x_t 0 1)⟩ : Pt).d), (⟨AV.bytes (x_t 0 0), AV.bytes (x_t 0 1)⟩ : Pt).d⟩)], .tup 2 (zX [.xl false 2 1 (fun _ => zX [.str (ZG (zI [49] (zM (⟨AV.bytes (x_t 0 0), AV.bytes (x_t 0 1)⟩ : Pt).n (⟨AV.bytes (x_t 0 0), AV.bytes (x_t 0 1)⟩ : Pt).d)) (⟨AV.bytes (x_t 0 0), AV.bytes (x_t 0 1)⟩ : Pt).d), .str (Lib.itoa (l1 (⟨AV.bytes (x_t 0 0), AV.bytes (x_t 0 1)⟩ : Pt).d : Int))]), .i 0]))
 | _ => none
theorem py (G : List (Nat × Obj)) (t : Pt) (ht : VJ t) (h1 : zZ t.d = true) (h2 : nz (zM t.n t.d)) (h3 : Uz ⟨zI [49] (zM t.n t.d), t.d⟩) :
 let q2 := (Pt.mk (AV.bytes (AV.str (Pt.n t))) (AV.bytes (AV.str (Pt.d t)))); let q1 := (Pt.n q2); let q3 := (bA #[(49 : UInt8)]); let q5 := (Pt.mk (AV.bytes (AV.str (zI q3 (zM (Pt.n t) (Pt.d t))))) (AV.bytes (AV.str (Pt.d t)))); let q4 := (Pt.n q5); let q6 := (Pt.d q5); let q7 := (ZG q4 q6); zb [AV.xl false 2 1 fun (x i : Nat) => Option.getD [AV.str (Pt.n t), AV.str (Pt.d t)][i]? AV.junk] → (zZ q1 = true ∧ zv q1 ≠ iZ ∧ ∃ (l : Nat), Pt.d q2 = Lib.itoa (cI l) ∧ 0 < l ∧ l < 10000000000000000 ∧ yt l = (1, l)) ∧ zZ (Pt.n t) = true ∧
 zZ (Pt.d t) = true ∧ zZ q3 = true ∧ zZ (zM (Pt.n t) (Pt.d t)) = true ∧ zv (zM (Pt.n t) (Pt.d t)) ≠ iZ ∧ (zZ q4 = true ∧ zv q4 ≠ iZ ∧ ((Zr q6 = iZ ∧ (zZ q6 = true ∨ zT q6 = false)) ∧ iZ < zv q6 ∧ lN (zp q6) + lN (za q6) ≤ 17) ∧ zZ (zY (cI (k1 q6)) (zU q6)) = true ∧ zZ q7 = true) ∧ j2 ∧ (True ∧ yu (AV.xl false 2 1 fun (x i : Nat) => Option.getD [AV.str q7, AV.str (Lib.itoa (cI (l1 q6)))][i]? AV.junk) (AV.xl false 2 1 fun (x i : Nat) => Option.getD [AV.str (ZG (zI [(49 :
 UInt8)] (zM (Pt.n t) (Pt.d t))) (Pt.d t)), AV.str (Lib.itoa (cI (l1 (Pt.d t))))][i]? AV.junk)) ∧ kI ∧ iZ = iZ := by
 delta bA cI kI j2 lN iZ
 dsimp only
 intro hb
 simp only [sS, dS]
 exact ⟨ht, ht.1, h1, by decide, h2.1, h2.2, h3, rfl, zw _⟩
theorem PW {G : List (Nat × Obj)} (hG : zN G) (t : Pt) (ht : VJ t) (h1 : zZ t.d = true) (h2 : nz (zM t.n t.d)) (h3 : Uz ⟨zI [49] (zM t.n t.d), t.d⟩) : zu Tryz.prog G 34 [.xl false 2 1 (fun _ => zX [.str t.n, .str t.d])] (.tup 2 (zX [.xl false 2 1 (fun _ => zX [.str (ZG (zI [49] (zM t.n t.d)) t.d), .str (Lib.itoa (l1 t.d : Int))]), .i 0])) :=
 zW (T := qp G) (an := .auto) mixed (Xk hG) (Eq.mp (by kernel_rfl) (py G t ht h1 h2 h3))
theorem rG {G : List (Nat × Obj)} (hG : zN G) : zP Tryz.prog G 34 uW := by
 intro xs ps r h hp
 unfold uW at h
 split at h
 ·skip
  rename_i f_t x_t
  cases h
  obtain ⟨q0, q1, q2, q3, q4, -⟩ := Zv hp
  exact weaken (ys := [.xl false 2 1 (fun _ => zX [.str (⟨AV.bytes (x_t 0 0), AV.bytes (x_t 0 1)⟩ : Pt).n, .str (⟨AV.bytes (x_t 0 0), AV.bytes (x_t 0 1)⟩ : Pt).d])]) ⟨Y0 q0, trivial⟩ (PW hG (⟨AV.bytes (x_t 0 0), AV.bytes (x_t 0 1)⟩ : Pt) q1 q2 q3 q4)
 ·cases h
end Go.Te

namespace Go.Te
open Go Go.Sx Go.Proofs Go.Ar
set_option maxRecDepth 100000
set_option maxHeartbeats 4000000
structure TN (t : Pt) (n d l : Nat) : Prop where
 en : t.n = zY (n : Int) d
 ed : t.d = Lib.itoa (l : Int)
 n0 : 0 < n ∧ n ≤ 99999999
 d0 : 0 < d ∧ d ≤ 99999999
 l0 : 0 < l ∧ l ≤ 99999999
 nr : yt l = (1, l)
theorem PK {l : Nat} (h : 0 < l ∧ l ≤ 99999999) : zZ (Lib.itoa (l : Int)) = true := by
 rw [← Ze]
 exact (UX h.1 (by omega) h.2 (by omega)).1
theorem TN.gd {t : Pt} {n d l : Nat} (h : TN t n d l) : VJ t ∧ zZ t.d = true := by
 obtain ⟨a, b⟩ := UX h.n0.1 h.d0.1 h.n0.2 h.d0.2
 rw [← h.en] at a b
 exact ⟨⟨a, (Int.ne_of_lt b).symm, l, h.ed, h.l0.1, by have := h.l0.2; omega, h.nr⟩, by rw [h.ed]; exact PK h.l0⟩
theorem tE {n d m k l : Nat} (hn : 0 < n ∧ n ≤ 99999999) (hd : 0 < d ∧ d ≤ 99999999) (hm : 0 < m ∧ m < 10000000000000000) (e : yt m = (k, l)) (hk : k ≤ 99999999) {n' d' : Nat} (hn' : 0 < n' ∧ n' ≤ 99999999) (hd' : 0 < d' ∧ d' ≤ 99999999) (hx : n * k * d' = n' * d) (hl : l ≤ 99999999) {c r : zK} (hc : c = zY (n : Int) d) (hr : r = Lib.itoa (m : Int)) :
  Uz ⟨c, r⟩ ∧ TN ⟨ZG c r, Lib.itoa (Ar.l1 r : Int)⟩ n' d' l := by
 subst hc hr
 obtain ⟨a, b⟩ := UX hn.1 hd.1 hn.2 hd.2
 obtain ⟨a', b'⟩ := UX hn'.1 hd'.1 hn'.2 hd'.2
 obtain ⟨k1e, l1e⟩ := TK m
 obtain ⟨r1, _⟩ := TU hm.1 hm.2
 obtain ⟨_, e2, _⟩ := Yh (m : Int)
 obtain ⟨s1, s2, s3, s4⟩ := Yy hm.1
 rw [e] at k1e l1e s1 s2 s3 s4
 simp only at k1e l1e s1 s2 s3 s4
 have ec : ZG (zY (n : Int) d) (Lib.itoa (m : Int)) = zY (n' : Int) d' := by
  unfold ZG
  rw [k1e, e2, ZD hd.1 (by omega), Nat.mul_one, ← Int.natCast_mul]
  exact (Z2 hd.1 hd'.1).2 (by exact_mod_cast hx)
 refine ⟨⟨a, (Int.ne_of_lt b).symm, r1, ?_, ?_⟩, ?_⟩
 ·simp only
  rw [k1e, e2]
  exact (UX s2 (by omega) hk (by omega)).1
 ·simp only
  rw [ec]; exact a'
 ·rw [l1e]
  exact ⟨ec, rfl, hn', hd', ⟨s3, hl⟩, s4⟩
theorem WO {a b c d : Nat} (hb : 0 < b) (hd : 0 < d) : zM (zY (a : Int) b) (zY (c : Int) d) = zY ((a * c : Nat) : Int) (b * d) := by
 rw [ZD hb hd, Int.natCast_mul]
theorem ud {X a b : Nat} (hX : 0 < X ∧ X ≤ 99999999) (ha : 0 < a ∧ a ≤ 48) (hb : 0 < b ∧ b ≤ 48) {r : zK} (hr : r = zY (X : Int) (a * b * (a * b))) :
  ∃ s, s * s * Ar.l1 r = X ∧ TN ⟨ZG [49] r, Lib.itoa (Ar.l1 r : Int)⟩ s (a * b) (Ar.l1 r) := by
 subst hr
 have hab : 0 < a * b ∧ a * b ≤ 48 * 48 := ⟨Nat.mul_pos ha.1 hb.1, Nat.mul_le_mul ha.2 hb.2⟩
 obtain ⟨s, h1, h2, h3⟩ := SH hX.1 ha hb
 have hp := ZX (X : Int) (Nat.mul_pos hab.1 hab.1)
 obtain ⟨q1, q2, q3, q4⟩ := Wy (yK hX.1 (Nat.mul_pos hab.1 hab.1)) hp
 have e1 : 1 * Ar.l1 (zY (X : Int) (a * b * (a * b))) ≤ s * s * Ar.l1 (zY (X : Int) (a * b * (a * b))) := Nat.mul_le_mul_right _ (Nat.mul_pos h1 h1)
 have e2 : s * s * 1 ≤ s * s * Ar.l1 (zY (X : Int) (a * b * (a * b))) := Nat.mul_le_mul_left _ q2
 have e3 : s * 1 ≤ s * s := Nat.mul_le_mul_left _ h1
 exact ⟨s, h2, (RI hp).trans h3, rfl, ⟨h1, by omega⟩, ⟨hab.1, by omega⟩, ⟨q2, by omega⟩, q4⟩
theorem tZ {Y a b : Nat} (hY : 0 < Y ∧ Y ≤ 99999999) (ha : 0 < a ∧ a ≤ 48) (hb : 0 < b ∧ b ≤ 48) {r : zK} (hr : r = zY ((a * b * (a * b) : Nat) : Int) Y) :
  ∃ s, 0 < s ∧ s * s * Ar.l1 r = Y ∧ TN ⟨ZG [49] r, Lib.itoa (Ar.l1 r : Int)⟩ (a * b) (s * Ar.l1 r) (Ar.l1 r) := by
 subst hr
 have hab : 0 < a * b ∧ a * b ≤ 48 * 48 := ⟨Nat.mul_pos ha.1 hb.1, Nat.mul_le_mul ha.2 hb.2⟩
 obtain ⟨s, h1, h2, h3⟩ := Tv hY.1 ha hb
 have hp := ZX ((a * b * (a * b) : Nat) : Int) hY.1
 obtain ⟨q1, q2, q3, q4⟩ := Wy (yK (Nat.mul_pos hab.1 hab.1) hY.1) hp
 have e1 : 1 * Ar.l1 (zY ((a * b * (a * b) : Nat) : Int) Y) ≤ s * s * Ar.l1 (zY ((a * b * (a * b) : Nat) : Int) Y) := Nat.mul_le_mul_right _ (Nat.mul_pos h1 h1)
 have e2 : s * 1 * Ar.l1 (zY ((a * b * (a * b) : Nat) : Int) Y) ≤ s * s * Ar.l1 (zY ((a * b * (a * b) : Nat) : Int) Y) := Nat.mul_le_mul_right _ (Nat.mul_le_mul_left _ h1)
 rw [Nat.mul_one] at e2
 exact ⟨s, h1, h2, (RI hp).trans h3, rfl, ⟨hab.1, by omega⟩, ⟨Nat.mul_pos h1 q2, by omega⟩, ⟨q2, by omega⟩, q4⟩
theorem qu {t : Pt} {n d l : Nat} (h : TN t n d l) (hn : n * n * l ≤ 99999999) (hd : d * d ≤ 99999999) : Uz ⟨zM t.n t.n, zM t.d t.d⟩ ∧ TN ⟨ZG (zM t.n t.n) (zM t.d t.d), Lib.itoa (Ar.l1 (zM t.d t.d) : Int)⟩ (n * n * l) (d * d) 1 := by
 have h1 := h.n0
 have h2 := h.d0
 have h3 := h.l0
 have hnn := Nat.mul_pos h1.1 h1.1
 have e1 : n * n * 1 ≤ n * n * l := Nat.mul_le_mul_left _ h3.1
 have hll : l * l ≤ 99999999 * 99999999 := Nat.mul_le_mul h3.2 h3.2
 refine tE (n := n * n) (d := d * d) (m := l * l) (k := l) (l := 1) ⟨hnn, by omega⟩ ⟨Nat.mul_pos h2.1 h2.1, hd⟩ ⟨Nat.mul_pos h3.1 h3.1, by omega⟩ (TP h3.1 (by omega)) h3.2 ⟨Nat.mul_pos hnn h3.1, hn⟩ ⟨Nat.mul_pos h2.1 h2.1, hd⟩ rfl (by omega) ?_ ?_
 ·rw [h.en, WO h2.1 h2.1]
 ·rw [h.ed, vM, Int.natCast_mul]
def Ob (t : Pt) : Prop := ∃ n d l, TN t n d l ∧ n * n * l ≤ 99999999 ∧ d * d ≤ 99999999
noncomputable def oe (G : List (Nat × Obj)) : Tb := ((wB G).plus 36 UY).plus 86 qx
theorem TJ {G : List (Nat × Obj)} (hG : zN G) : zz Tryz.prog (oe G) := zz.plus (zz.plus zq (qs hG)) (Ow hG)
theorem PQ {t : Pt} {n d l x y : Nat} (h : TN t n d l) (hx : 0 < x ∧ x ≤ 99999999) (hy : 0 < y ∧ y ≤ 99999999) (e : n * l * y = x * d) :
  nz (zM t.n t.d) ∧ Uz ⟨zI [49] (zM t.n t.d), t.d⟩ ∧ TN ⟨ZG (zI [49] (zM t.n t.d)) t.d, Lib.itoa (Ar.l1 t.d : Int)⟩ y x l := by
 have e1 : zM t.n t.d = zY (x : Int) y := by
  rw [h.en, h.ed, ← Ze, WO h.d0.1 (by omega), Nat.mul_one]
  exact (Z2 h.d0.1 hy.1).2 (by exact_mod_cast e)
 have e2 : zI [49] (zM t.n t.d) = zY (y : Int) x := by
  rw [e1, show ([49] : zK) = zY ((1 : Nat) : Int) 1 from Zh, Yz (by omega) hy.1 hx.1, Nat.one_mul, show ((1 : Nat) : Int) * (y : Int) = (y : Int) from Int.one_mul _]
 obtain ⟨a, b⟩ := UX hx.1 hy.1 hx.2 hy.2
 refine ⟨by rw [e1]; exact ⟨a, (Int.ne_of_lt b).symm⟩, ?_⟩
 exact tE (m := l) (k := 1) hy hx ⟨h.l0.1, by have := h.l0.2; omega⟩ h.nr (by omega) hy hx (by rw [Nat.mul_one]) h.l0.2 e2 h.ed
def S8 : List AV → Option (List zO × AV)
 | [.xl f_s 2 1 x_s, .v (.int .i64 e)] => some ([.b (ZT (x_s 0 0) && ZT (x_s 0 1)), .p (Ob (⟨AV.bytes (x_s 0 0), AV.bytes (x_s 0 1)⟩ : Pt)), .p (e = 0)], .tup 2 (zX [.str (ZG (zM (⟨AV.bytes (x_s 0 0), AV.bytes (x_s 0 1)⟩ : Pt).n (⟨AV.bytes (x_s 0 0), AV.bytes (x_s 0 1)⟩ : Pt).n) (zM (⟨AV.bytes (x_s 0 0), AV.bytes (x_s 0 1)⟩ : Pt).d (⟨AV.bytes (x_s 0 0), AV.bytes (x_s 0 1)⟩ : Pt).d)), .b true]))
 | _ => none
theorem oU (G : List (Nat × Obj)) (s : Pt) (e : Int) (hs : Ob s) (he : e = 0) :
 let q3 := (Pt.mk (AV.bytes (AV.str (Pt.n s))) (AV.bytes (AV.str (Pt.d s)))); let q2 := (Pt.n q3); let q1 := (zZ q2 = true ∧ zv q2 ≠ iZ ∧ ∃ (l : Nat), Pt.d q3 = Lib.itoa (cI l) ∧ 0 < l ∧ l < 10000000000000000 ∧ yt l = (1, l)); let q4 := (Pt.d q3); let q7 := (zM q2 q2); let q8 := (zM q4 q4); let q6 := (Pt.mk q7 q8); let q5 := (Pt.n q6); let q9 := (Pt.d q6); let q11 := (Pt.mk (AV.bytes (AV.str (ZG q7 q8))) (AV.bytes (AV.str (Lib.itoa (cI (l1 q8)))))); let q10 := (Pt.n q11); let q12 := (if iZ > if iZ > e then iZ else e then iZ else if iZ >
 e then iZ else e); zb [AV.xl false 2 1 fun (x i : Nat) => Option.getD [AV.str (Pt.n s), AV.str (Pt.d s)][i]? AV.junk, aI e] → q1 ∧ q1 ∧ zZ q4 = true ∧ zZ q4 = true ∧ (zZ q5 = true ∧ zv q5 ≠ iZ ∧ ((Zr q9 = iZ ∧ (zZ q9 = true ∨ zT q9 = false)) ∧ iZ < zv q9 ∧ lN (zp q9) + lN (za q9) ≤ 17) ∧ zZ (zY (cI (k1 q9)) (zU q9)) = true ∧ zZ (ZG q5 q9) = true) ∧ (zZ q10 = true ∧ zv q10 ≠ iZ ∧ ∃ (l : Nat), Pt.d q11 = Lib.itoa (cI l) ∧ 0 < l ∧ l < 10000000000000000 ∧ yt l = (1, l)) ∧ zV
 (!q12 == iZ || zQ true (q12 == iZ)) (j2 ∧ (True ∧ (bif Pt.d q11 == [(49 : UInt8)] then Pt.n q11 else []) = ZG (zM (Pt.n s) (Pt.n s)) (zM (Pt.d s) (Pt.d s))) ∧ (bif q12 == iZ then Pt.d q11 == [(49 : UInt8)] else false) = true) False := by
 delta cI j2 lN iZ aI
 dsimp only
 intro hb
 simp only [sS, dS]
 subst he
 obtain ⟨n, d, l, h, h1, h2⟩ := hs
 obtain ⟨m1, m2⟩ := qu h h1 h2
 obtain ⟨g1, g2⟩ := h.gd
 have e1 : (Lib.itoa (Ar.l1 (zM s.d s.d) : Int) == [49]) = true := by
  have : Lib.itoa (Ar.l1 (zM s.d s.d) : Int) = Lib.itoa ((1 : Nat) : Int) := m2.ed
  rw [this]
  decide +kernel
 refine ⟨g1, g1, g2, g2, m1, m2.gd.1, rfl, ?_, ?_⟩
 ·show (bif Lib.itoa (Ar.l1 (zM s.d s.d) : Int) == [49] then ZG (zM s.n s.n) (zM s.d s.d) else []) = _
  rw [e1]; rfl
 ·show (_ && Lib.itoa (Ar.l1 (zM s.d s.d) : Int) == [49]) = true
  rw [e1]
  decide
theorem og {G : List (Nat × Obj)} (hG : zN G) (s : Pt) (e : Int) (hs : Ob s) (he : e = 0) : zu Tryz.prog G 40 [.xl false 2 1 (fun _ => zX [.str s.n, .str s.d]), .i e] (.tup 2 (zX [.str (ZG (zM s.n s.n) (zM s.d s.d)), .b true])) :=
 zW (T := oe G) (an := .auto) mixed (TJ hG) (Eq.mp (by kernel_rfl) (oU G s e hs he))
theorem OQ {G : List (Nat × Obj)} (hG : zN G) : zP Tryz.prog G 40 S8 := by
 intro xs ps r h hp
 unfold S8 at h
 split at h
 ·skip
  rename_i f_s x_s e
  cases h
  obtain ⟨q0, q1, q2, -⟩ := Zv hp
  exact weaken (ys := [.xl false 2 1 (fun _ => zX [.str (⟨AV.bytes (x_s 0 0), AV.bytes (x_s 0 1)⟩ : Pt).n, .str (⟨AV.bytes (x_s 0 0), AV.bytes (x_s 0 1)⟩ : Pt).d]), .i e]) ⟨Y0 q0, zw _, trivial⟩ (og hG (⟨AV.bytes (x_s 0 0), AV.bytes (x_s 0 1)⟩ : Pt) e q1 q2)
 ·cases h
end Go.Te

namespace Go.Te
open Go Go.Sx Go.Proofs Go.Ar
set_option maxRecDepth 100000
set_option maxHeartbeats 4000000
noncomputable def nS (G : List (Nat × Obj)) : Tb := ((((((wB G).plus 12 w8).plus 13 u4).plus 14 uj).plus 40 S8).plus 34 uW).plus 41 uD |>.plus 19 xe
theorem SX {G : List (Nat × Obj)} (hG : zN G) : zz Tryz.prog (nS G) := zz.plus (zz.plus (zz.plus (zz.plus (zz.plus (zz.plus (zz.plus zq (T8 hG)) (R0 hG)) (rV hG)) (OQ hG)) (rG hG)) (RR hG)) (Ww hG)
theorem Qn (G : List (Nat × Obj)) (a : Int) (b : Int) (c : Int) (d : Int) (ha : YE a) (hc : YE b) (hd : YE c) (he : YE d) :
 let q1 := (∃ (N : Nat), ∃ (D : Nat), (0 < N ∧ N ≤ 48) ∧ (0 < D ∧ D ≤ 48) ∧ pP a b = zY (cI N) D); let q2 := (∃ (N : Nat), ∃ (D : Nat), (0 < N ∧ N ≤ 48) ∧ (0 < D ∧ D ≤ 48) ∧ pP c d = zY (cI N) D); let q3 := (Pt.mk (AV.bytes (AV.str (ZG [(49 : UInt8)] (Xs (pP a b) (pP c d))))) (AV.bytes (AV.str (Lib.itoa (cI (l1 (Xs (pP a b) (pP c d)))))))); let q5 := (Pt.mk (AV.bytes (AV.str (ZG [(49 : UInt8)] (Xp (pP a b) (pP c d))))) (AV.bytes (AV.str (Lib.itoa (cI (l1 (Xp (pP a b) (pP c d)))))))); let q4 := (Pt.n q5); let q6 := (Pt.d q5); let q7 := (zM q4 q6); let q10 :=
 (zI [(49 : UInt8)] q7); let q9 := (Pt.mk q10 q6); let q8 := (Pt.n q9); let q11 := (Pt.d q9); let q12 := (Pt.mk (AV.bytes (AV.str (ZG q10 q6))) (AV.bytes (AV.str (Lib.itoa (cI (l1 q6)))))); let q13 := (bA #[(49 : UInt8)]); let q15 := (Pt.n q12); let q16 := (Pt.d q12); let q14 := (ZG (zM q15 q15) (zM q16 q16)); let q18 := (Pt.n q3); let q17 := (zM q18 q18); let q20 := (Pt.d q3); let q19 := (zM q20 q20); zb [AV.v (Value.int IntKind.u8 a), AV.v (Value.int IntKind.u8 b), AV.v (Value.int IntKind.u8 c), AV.v (Value.int IntKind.u8 d)] → ((0 :
 Int) ≤ a ∧ a ≤ (255 : Int)) ∧ (iZ ≤ b ∧ b ≤ (255 : Int)) ∧ (iZ ≤ c ∧ c ≤ (255 : Int)) ∧ (iZ ≤ d ∧ d ≤ (255 : Int)) ∧ q1 ∧ q2 ∧ q1 ∧ q2 ∧ (∃ (n : Nat), ∃ (d_1 : Nat), ∃ (l : Nat), TN q3 n d_1 l ∧ n * n * l ≤ 99999999 ∧ d_1 * d_1 ≤ 99999999) ∧ iZ = iZ ∧ (zZ q4 = true ∧ zv q4 ≠ iZ ∧ ∃ (l : Nat), Pt.d q5 = Lib.itoa (cI l) ∧ 0 < l ∧ l < 10000000000000000 ∧ yt l = (1, l)) ∧ zZ q6 = true ∧ (zZ q7 = true ∧ zv q7 ≠ iZ) ∧ (zZ q8 = true ∧ zv q8 ≠ iZ ∧ ((Zr q11 = iZ ∧ (zZ q11 = true ∨ zT q11 = false)) ∧ iZ <
 zv q11 ∧ lN (zp q11) + lN (za q11) ≤ 17) ∧ zZ (zY (cI (k1 q11)) (zU q11)) = true ∧ zZ (ZG q8 q11) = true) ∧ (∃ (n : Nat), ∃ (d_1 : Nat), ∃ (l : Nat), TN q12 n d_1 l ∧ n * n * l ≤ 99999999 ∧ d_1 * d_1 ≤ 99999999) ∧ iZ = iZ ∧ zZ q13 = true ∧ zZ q14 = true ∧ bF ((!bif bif true then iZ == iZ else false then ZG q17 q19 == z7 q13 q14 else false) || zQ true (bif bif true then iZ == iZ else false then ZG q17 q19 == z7 q13 q14 else false)) ((bif bif bif true then iZ == iZ else false then ZG q17
 q19 == z7 q13 q14 else false then true else false) = true) := by
 delta bF bA cI lN iZ
 dsimp only
 intro hb
 simp only [sS, dS]
 have h1 := vS ha hc
 have h2 := vS hd he
 generalize pP a b = P at *
 generalize pP c d = Q at *
 obtain ⟨N, D, hN, hD, eP⟩ := id h1
 obtain ⟨M, E, hM, hE, eQ⟩ := id h2
 have n2 := XI hN
 have d2 := XI hD
 have m2 := XI hM
 have e2 := XI hE
 have b1 : 0 < D * D * (M * M) ∧ D * D * (M * M) ≤ 2304 * 2304 := ⟨Nat.mul_pos d2.1 m2.1, Nat.mul_le_mul d2.2 m2.2⟩
 have b2 : E * E * (N * N) ≤ 2304 * 2304 := Nat.mul_le_mul e2.2 n2.2
 have b3 : 0 < N * M * (N * M) ∧ N * M * (N * M) ≤ 2304 * 2304 := by
  rw [show N * M * (N * M) = N * N * (M * M) by grind]
  exact ⟨Nat.mul_pos n2.1 m2.1, Nat.mul_le_mul n2.2 m2.2⟩
 have b4 : 0 < N * M ∧ N * M ≤ 48 * 48 := ⟨Nat.mul_pos hN.1 hM.1, Nat.mul_le_mul hN.2 hM.2⟩
 have hL : Xs P Q = zY ((N * M * (N * M) + (D * D * (M * M) + E * E * (N * N)) : Nat) : Int) (N * M * (N * M)) := by rw [eP, eQ]; exact T7 hN.1 hD.1 hM.1 hE.1
 have hH : Xp P Q = zY ((N * M * (N * M) : Nat) : Int) (D * D * (M * M) + E * E * (N * N)) := by rw [eP, eQ]; exact TA hN.1 hD.1 hM.1 hE.1
 obtain ⟨s1, x1, T1⟩ := ud ⟨by omega, by omega⟩ hN hM hL
 obtain ⟨s2, y0, y1, T2⟩ := tZ ⟨by omega, by omega⟩ hN hM hH
 generalize Xs P Q = L at *
 generalize Xp P Q = H at *
 have c1 : s2 * 1 ≤ s2 * s2 := Nat.mul_le_mul_left _ y0
 have c2 : s2 * s2 * 1 ≤ s2 * s2 * Ar.l1 H := Nat.mul_le_mul_left _ T2.l0.1
 obtain ⟨i1, i2, T3⟩ := PQ T2 (x := N * M) (y := s2) ⟨b4.1, by omega⟩ ⟨y0, by omega⟩ (by rw [Nat.mul_assoc, Nat.mul_comm (Ar.l1 H) s2])
 obtain ⟨q1, T4⟩ := qu T1 (by omega) (by omega)
 obtain ⟨q2, T5⟩ := qu T3 (by omega) (by omega)
 have fin := T4.en
 have fin2 := T5.en
 simp only at fin fin2
 refine ⟨ha, hc, hd, he, h1, h2, h1, h2, ⟨s1, _, _, T1, by omega, by omega⟩, T2.gd.1, T2.gd.2, i1, i2, ⟨s2, _, _, T3, by omega, by omega⟩, by decide, T5.gd.1.1, ?_⟩
 have key : ∀ A B : zK, A = B → ((0 : Int) == 0 && A == B && true) = true := fun A B h => by rw [h]; simp
 refine key _ _ (fin.trans ?_)
 refine Eq.trans ?_ (congrArg (z7 [49]) fin2).symm
 rw [x1, y1, show ([49] : zK) = zY ((1 : Nat) : Int) 1 from Zh, x6 (by omega) b3.1, Nat.one_mul]
 refine congrArg (fun z => zY z _) ?_
 push_cast
 omega
theorem Pg {G : List (Nat × Obj)} (hG : zN G) (a : Int) (b : Int) (c : Int) (d : Int) (ha : YE a) (hc : YE b) (hd : YE c) (he : YE d) : zu Tryz.prog G 9 [.v (.int .u8 a), .v (.int .u8 b), .v (.int .u8 c), .v (.int .u8 d)] (.b true) :=
 zW (T := nS G) (an := .auto) mixed (SX hG) (Eq.mp (by kernel_rfl) (Qn G a b c d ha hc hd he))
end Go.Te
