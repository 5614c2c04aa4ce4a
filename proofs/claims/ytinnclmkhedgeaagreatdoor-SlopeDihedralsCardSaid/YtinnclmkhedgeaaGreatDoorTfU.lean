/- SlopeDihedrals. -/
import Derived.Test.YtinnclmkhedgeaaGreatDoorTfP
set_option linter.unusedSimpArgs false
set_option linter.unusedVariables false
namespace Go.Te
open Go Go.Sx Go.Proofs Go.Ar
set_option maxRecDepth 100000
set_option maxHeartbeats 4000000
theorem Rn {s t : Pt} {n1 d1 l1 n2 d2 l2 x y k l n' d' : Nat} (hs : TN s n1 d1 l1) (ht : TN t n2 d2 l2) (hx : 0 < x ∧ x ≤ 99999999) (hy : 0 < y ∧ y ≤ 99999999) (ex : n1 * n2 * y = x * (d1 * d2))
  (e : yt (l1 * l2) = (k, l)) (hk : k ≤ 99999999) (hl : l ≤ 99999999) (hn : 0 < n' ∧ n' ≤ 99999999) (hd : 0 < d' ∧ d' ≤ 99999999) (e' : x * k * d' = n' * y) :
  Uz ⟨zM s.n t.n, zM s.d t.d⟩ ∧ TN ⟨ZG (zM s.n t.n) (zM s.d t.d), Lib.itoa (Ar.l1 (zM s.d t.d) : Int)⟩ n' d' l := by
 have h1 : zM s.n t.n = zY (x : Int) y := by
  rw [hs.en, ht.en, WO hs.d0.1 ht.d0.1]
  exact (Z2 (Nat.mul_pos hs.d0.1 ht.d0.1) hy.1).2 (by exact_mod_cast ex)
 have h2 : zM s.d t.d = Lib.itoa ((l1 * l2 : Nat) : Int) := by rw [hs.ed, ht.ed, vM, Int.natCast_mul]
 have hll : l1 * l2 ≤ 99999999 * 99999999 := Nat.mul_le_mul hs.l0.2 ht.l0.2
 exact tE hx hy ⟨Nat.mul_pos hs.l0.1 ht.l0.1, by omega⟩ e hk hn hd e' hl h1 h2
noncomputable def nN (G : List (Nat × Obj)) : Tb := ((((((wB G).plus 12 w8).plus 15 u6).plus 24 V6).plus 36 UY).plus 16 WG).plus 37 WP |>.plus 19 xe
theorem sC {G : List (Nat × Obj)} (hG : zN G) : zz Tryz.prog (nN G) := zz.plus (zz.plus (zz.plus (zz.plus (zz.plus (zz.plus (zz.plus zq (T8 hG)) (RQ hG)) (rF hG)) (qs hG)) (zP.mono TO)) (zP.mono tA)) (Ww hG)
theorem Qw (G : List (Nat × Obj)) (a : Int) (b : Int) (c : Int) (d : Int) (ha : YE a) (hc : YE b) (hd : YE c) (he : YE d) :
 let q1 := (∃ (N : Nat), ∃ (D : Nat), (0 < N ∧ N ≤ 48) ∧ (0 < D ∧ D ≤ 48) ∧ pP a b = zY (cI N) D); let q2 := (∃ (N : Nat), ∃ (D : Nat), (0 < N ∧ N ≤ 48) ∧ (0 < D ∧ D ≤ 48) ∧ pP c d = zY (cI N) D); let q4 := (Pt.mk (AV.bytes (AV.str (ZG [(49 : UInt8)] (yc (pP a b))))) (AV.bytes (AV.str (Lib.itoa (cI (l1 (yc (pP a b)))))))); let q3 := (Pt.n q4); let q6 := (Pt.mk (AV.bytes (AV.str (ZG [(49 : UInt8)] (yc (pP c d))))) (AV.bytes (AV.str (Lib.itoa (cI (l1 (yc (pP c d)))))))); let q5 := (Pt.n q6); let q7 := (Pt.d q4); let q8 := (Pt.d q6); let q11 := (zM q3 q5); let q12
 := (zM q7 q8); let q10 := (Pt.mk q11 q12); let q9 := (Pt.n q10); let q13 := (Pt.d q10); let q15 := (Pt.mk (AV.bytes (AV.str (ZG q11 q12))) (AV.bytes (AV.str (Lib.itoa (cI (l1 q12)))))); let q14 := (Pt.n q15); let q17 := (Pt.mk (AV.bytes (AV.str (ZG [(49 : UInt8)] (Xq (pP a b) (pP c d))))) (AV.bytes (AV.str (Lib.itoa (cI (l1 (Xq (pP a b) (pP c d)))))))); let q16 := (Pt.n q17); let q18 := (Pt.d q15); let q19 := (Pt.d q17); let q22 := (zM q14 q16); let q23 := (zM q18 q19); let q21 := (Pt.mk q22 q23); let q20 := (Pt.n q21); let q24 := (Pt.d q21); let q25 := (Pt.mk (AV.bytes
 (AV.str (ZG q22 q23))) (AV.bytes (AV.str (Lib.itoa (cI (l1 q23)))))); let q27 := (AV.bytes (AV.str (bA #[(49 : UInt8)]))); let q26 := (Pt.mk q27 q27); zb [AV.v (Value.int IntKind.u8 a), AV.v (Value.int IntKind.u8 b), AV.v (Value.int IntKind.u8 c), AV.v (Value.int IntKind.u8 d)] → (iZ ≤ a ∧ a ≤ (255 : Int)) ∧ (iZ ≤ b ∧ b ≤ (255 : Int)) ∧ (iZ ≤ c ∧ c ≤ (255 : Int)) ∧ (iZ ≤ d ∧ d ≤ (255 : Int)) ∧ q1 ∧ q2 ∧ q1 ∧ q2 ∧ (zZ q3 = true ∧ zv q3 ≠ iZ ∧ ∃ (l : Nat), Pt.d q4 = Lib.itoa (cI l) ∧ 0 < l ∧ l <
 10000000000000000 ∧ yt l = (1, l)) ∧ (zZ q5 = true ∧ zv q5 ≠ iZ ∧ ∃ (l : Nat), Pt.d q6 = Lib.itoa (cI l) ∧ 0 < l ∧ l < 10000000000000000 ∧ yt l = (1, l)) ∧ zZ q7 = true ∧ zZ q8 = true ∧ (zZ q9 = true ∧ zv q9 ≠ iZ ∧ ((Zr q13 = iZ ∧ (zZ q13 = true ∨ zT q13 = false)) ∧ iZ < zv q13 ∧ lN (zp q13) + lN (za q13) ≤ 17) ∧ zZ (zY (cI (k1 q13)) (zU q13)) = true ∧ zZ (ZG q9 q13) = true) ∧ (zZ q14 = true ∧ zv q14 ≠ iZ ∧ ∃ (l : Nat), Pt.d q15 = Lib.itoa (cI l) ∧ 0 < l ∧ l < 10000000000000000 ∧ yt l =
 (1, l)) ∧ (zZ q16 = true ∧ zv q16 ≠ iZ ∧ ∃ (l : Nat), Pt.d q17 = Lib.itoa (cI l) ∧ 0 < l ∧ l < 10000000000000000 ∧ yt l = (1, l)) ∧ zZ q18 = true ∧ zZ q19 = true ∧ (zZ q20 = true ∧ zv q20 ≠ iZ ∧ ((Zr q24 = iZ ∧ (zZ q24 = true ∨ zT q24 = false)) ∧ iZ < zv q24 ∧ lN (zp q24) + lN (za q24) ≤ 17) ∧ zZ (zY (cI (k1 q24)) (zU q24)) = true ∧ zZ (ZG q20 q24) = true) ∧ bF ((!bif bif iZ == iZ then iZ == iZ else false then Pt.n q25 == Pt.n q26 && Pt.d q25 == Pt.d q26 else false) || zQ
 true (bif bif iZ == iZ then iZ == iZ else false then Pt.n q25 == Pt.n q26 && Pt.d q25 == Pt.d q26 else false)) ((bif bif bif iZ == iZ then iZ == iZ else false then Pt.n q25 == Pt.n q26 && Pt.d q25 == Pt.d q26 else false then true else false) = true) := by
 delta bF bA cI lN iZ
 dsimp only
 intro hb
 simp only [sS, dS]
 have h1 := vS ha hc
 have h2 := vS hd he
 generalize pP a b = P at *
 generalize pP c d = Q at *
 obtain ⟨N, D, hN, hD, eP⟩ := id h1
 obtain ⟨M, E, hM, hE, eQ⟩ := id h2
 have n2 := XI hN
 have d2 := XI hD
 have m2 := XI hM
 have e2 := XI hE
 have one : 0 < 1 ∧ 1 ≤ 48 := by decide
 have hF : yc P = zY ((D * D + N * N : Nat) : Int) (D * 1 * (D * 1)) := by rw [eP, Nat.mul_one]; exact Y2 hD.1
 have hF2 : yc Q = zY ((E * E + M * M : Nat) : Int) (E * 1 * (E * 1)) := by rw [eQ, Nat.mul_one]; exact Y2 hE.1
 have hY : 0 < (D * D + N * N) * (E * E + M * M) ∧ (D * D + N * N) * (E * E + M * M) ≤ 4608 * 4608 := ⟨Nat.mul_pos (by omega) (by omega), Nat.mul_le_mul (by omega) (by omega)⟩
 have hH : Xq P Q = zY ((D * E * (D * E) : Nat) : Int) ((D * D + N * N) * (E * E + M * M)) := by rw [eP, eQ]; exact sQ hD.1 hE.1
 have hDE : 0 < D * E ∧ D * E ≤ 48 * 48 := ⟨Nat.mul_pos hD.1 hE.1, Nat.mul_le_mul hD.2 hE.2⟩
 obtain ⟨s1, x1, T1⟩ := ud ⟨by omega, by omega⟩ hD one hF
 obtain ⟨s2, x2, T2⟩ := ud ⟨by omega, by omega⟩ hE one hF2
 obtain ⟨s3, y0, x3, T3⟩ := tZ ⟨hY.1, by omega⟩ hD hE hH
 rw [Nat.mul_one] at T1 T2
 generalize D * D + N * N = X1 at *
 generalize E * E + M * M = X2 at *
 generalize yc P = F1 at *
 generalize yc Q = F2 at *
 generalize Xq P Q = F3 at *
 obtain ⟨v1, v2, v3, v4⟩ := Yy (Nat.mul_pos T1.l0.1 T2.l0.1)
 obtain ⟨⟨k4, l4⟩, e4⟩ : ∃ z : Nat × Nat, yt (Ar.l1 F1 * Ar.l1 F2) = z := ⟨_, rfl⟩
 rw [e4] at v1 v2 v3 v4
 simp only at v1 v2 v3 v4
 have hs1 := T1.n0.1
 have hs2 := T2.n0.1
 have t0 : 0 < s1 * s2 := Nat.mul_pos hs1 hs2
 have t1 : 0 < s1 * s2 * k4 := Nat.mul_pos t0 v2
 have hT : s1 * s2 * k4 * (s1 * s2 * k4) * l4 = X1 * X2 := by
  have : s1 * s2 * k4 * (s1 * s2 * k4) * l4 = s1 * s1 * (s2 * s2) * (k4 * k4 * l4) := by grind
  rw [this, v1, ← x1, ← x2]; grind
 have g1 : s1 * s2 * 1 ≤ s1 * s2 * k4 := Nat.mul_le_mul_left _ v2
 have g2 : 1 * k4 ≤ s1 * s2 * k4 := Nat.mul_le_mul_right _ t0
 have g3 : s1 * s2 * k4 * 1 ≤ s1 * s2 * k4 * (s1 * s2 * k4) := Nat.mul_le_mul_left _ t1
 have g4 : s1 * s2 * k4 * (s1 * s2 * k4) * 1 ≤ s1 * s2 * k4 * (s1 * s2 * k4) * l4 := Nat.mul_le_mul_left _ v3
 have g5 : 1 * l4 ≤ s1 * s2 * k4 * (s1 * s2 * k4) * l4 := Nat.mul_le_mul_right _ (Nat.mul_pos t1 t1)
 obtain ⟨m1, T4⟩ := Rn T1 T2 (x := s1 * s2) (y := D * E) ⟨t0, by omega⟩ ⟨hDE.1, by omega⟩ rfl e4 (by omega) (by omega) (n' := s1 * s2 * k4) (d' := D * E) ⟨t1, by omega⟩ ⟨hDE.1, by omega⟩ rfl
 obtain ⟨j, j1, j2⟩ := Vn (c := s1 * s2 * k4) (l := l4 * Ar.l1 F3) (k := s3 * Ar.l1 F3) t1 (by
  rw [← Nat.mul_assoc, hT, ← x3]; grind)
 have hj0 : 0 < j := Nat.pos_of_ne_zero fun e => by
  rw [e, Nat.mul_zero] at j2
  have := T3.d0.1
  omega
 have g6 : 1 * j ≤ s1 * s2 * k4 * j := Nat.mul_le_mul_right _ t1
 have g7 : s3 * 1 * Ar.l1 F3 ≤ s3 * s3 * Ar.l1 F3 := Nat.mul_le_mul_right _ (Nat.mul_le_mul_left _ y0)
 rw [Nat.mul_one] at g7
 have hjj : j * j ≤ 99999999 * 99999999 := Nat.mul_le_mul (by omega) (by omega)
 obtain ⟨m2', T5⟩ := Rn T4 T3 (x := s1 * s2 * k4) (y := s3 * Ar.l1 F3) ⟨t1, by omega⟩ ⟨T3.d0.1, by omega⟩ (by rw [Nat.mul_assoc, Nat.mul_assoc]) (by rw [j1]; exact TP hj0 (by omega)) (k := j) (l := 1) (by omega) (by omega) (n' := 1) (d' := 1) (by omega) (by omega) (by omega)
 have f1 := T5.en
 have f2 := T5.ed
 simp only at f1 f2
 refine ⟨ha, hc, hd, he, h1, h2, h1, h2, T1.gd.1, T2.gd.1, T1.gd.2, T2.gd.2, m1, T4.gd.1, T3.gd.1, T4.gd.2, T3.gd.2, m2', ?_⟩
 have key : ∀ A B : zK, A = [49] → B = [49] → ((0 : Int) == 0 && (0 : Int) == 0 && (A == [49] && B == [49]) && true) = true := fun A B h h' => by rw [h, h']; decide
 exact key _ _ (f1.trans Zh.symm) (f2.trans (by decide +kernel))
theorem pb {G : List (Nat × Obj)} (hG : zN G) (a : Int) (b : Int) (c : Int) (d : Int) (ha : YE a) (hc : YE b) (hd : YE c) (he : YE d) : zu Tryz.prog G 7 [.v (.int .u8 a), .v (.int .u8 b), .v (.int .u8 c), .v (.int .u8 d)] (.b true) :=
 zW (T := nN G) (an := .auto) mixed (sC hG) (Eq.mp (by kernel_rfl) (Qw G a b c d ha hc hd he))
end Go.Te
