/- kingpostlaw53.SpanFinds. -/
import Derived.Test.YtdkpceodckdcfaaGreatDoorTePc
import Derived.Test.YtdkpceodckdcfaaGreatDoorTeGd
set_option linter.unusedSimpArgs false
set_option linter.unusedVariables false
namespace Go.Te
open Go Go.Sx Go.Proofs Go.Ar Go.RowKit
set_option maxRecDepth 100000
set_option maxHeartbeats 4000000
noncomputable def GE (G : List (Nat × Obj)) : Tb := ((((((((((((wn G).plus 32 MV).plus 33 Np).plus 16 pz).plus 34 So).plus 15 tX).plus 35 Mn).plus 17 Jg).plus 36 lK).plus 37 mJ).plus 38 lw).plus 39 lX).plus 13 (Rq [] (.b true))
theorem oO {G : List (Nat × Obj)} (hG : zM G) : zY Tryz.prog (GE G) :=
 zY.plus (zY.plus (zY.plus (zY.plus (zY.plus (zY.plus (zY.plus (zY.plus (zY.plus (zY.plus (zY.plus (zY.plus zr (zQ.mono HT)) (zQ.mono H4)) (zQ.mono IO)) (zQ.mono jG)) (N3 hG)) (gm hG)) (Gm hG)) (I9 hG)) (HC hG)) (HY hG)) (zQ.mono gv)) (tz (kW hG))
theorem Js {ms : List Mb} (h : LA ms = false) (hl : ms.length ≤ 512) : ∀ x ∈ ms, iC x := by
 unfold LA at h
 rw [Bool.or_eq_false_iff, Bool.or_eq_false_iff] at h
 have h6 : ms.length ≤ 6 := by
  have := h.1.2
  rw [Bool.and_eq_false_iff, Bool.eq_false_iff, Bool.eq_false_iff, Ne, Ne, zq, zF] at this
  omega
 have ha := h.1.1
 rw [List.take_of_length_le (by omega), List.any_eq_false] at ha
 have h9 : ∀ {a : zh}, sf a = false → a.length ≤ 100000000 := fun {a} e => by
  unfold sf at e
  rw [Bool.or_eq_false_iff, Bool.eq_false_iff (b := zn 604 _), Ne, zq] at e
  omega
 have hs : ∀ {p : zD}, NX p = false → Rs p := fun {p} e => by
  unfold NX at e
  rw [Bool.or_eq_false_iff, Bool.or_eq_false_iff] at e
  exact ⟨h9 e.1.1, h9 e.1.2, h9 e.2⟩
 intro x hx
 have hx := ha x hx
 unfold gM at hx
 rw [Bool.not_eq_true, Bool.or_eq_false_iff] at hx
 exact ⟨hs hx.1, hs hx.2⟩
theorem H2 (G : List (Nat × Obj)) (c : Qu) (ms : List Mb) (hl : ∀ x ∈ ms, PL x) :
 let q1 := (AV.agg 6 fun (i : Nat) => zp.enc c (0 + i)); let q3 := (ZR q1); let q2 := (Jx q3); let q4 := (AV.xl false 11 (lN ms) fun i j => zp.enc (gD ms i zp.dflt) j); let q5 := (xC q4); let q7 := (AV.xl false 5 (lN (Qu.l c)) fun i j => zp.enc (gD (Qu.l c) i zp.dflt) j); let q6 := (za Row q7); let q10 := (rowsOf q7); let q11 := (xy q7); let q9 := (yh q10 (Qu.w c) (Qu.d c) (Qu.s c) (Qu.q c) != yh q11 (Qu.w c) (Qu.d c) (Qu.s c) (Qu.q c)); let q8 := (!zU false q9 || zU false q9); let q13 := (bif yh q10 (Qu.w c) (Qu.d c) (Qu.s c) (Qu.q c) !=
 yh q11 (Qu.w c) (Qu.d c) (Qu.s c) (Qu.q c) then true else yt q10 (Qu.w c) (Qu.d c) (Qu.s c) (Qu.q c) != yt q11 (Qu.w c) (Qu.d c) (Qu.s c) (Qu.q c)); let q12 := (!zU false q13 || zU false q13); let q15 := (bif bif yh q10 (Qu.w c) (Qu.d c) (Qu.s c) (Qu.q c) != yh q11 (Qu.w c) (Qu.d c) (Qu.s c) (Qu.q c) then true else yt q10 (Qu.w c) (Qu.d c) (Qu.s c) (Qu.q c) != yt q11 (Qu.w c) (Qu.d c) (Qu.s c) (Qu.q c) then true else !tU q11 (Qu.w c) (Qu.d c) (Qu.s c) (Qu.q c) (Qu.sp c) == tU q11 (Qu.w c) (Qu.d c) (Qu.s c) (Qu.q c) (Qu.sp c)); let q14 := (!zU false q15 || zU false
 q15); let q16 := (za Mb q4); let q19 := (uA q10 (Qu.s c) (Qu.q c) (Qu.sp c)); let q20 := (uA q11 (Qu.s c) (Qu.q c) (Qu.sp c)); let q21 := (Sz.w q19 == Sz.w q20 && (Sz.d q19 == Sz.d q20 && true)); let q18 := (Sz.k q19 == Sz.k q20 && q21); let q17 := (!zU true q18 || zU true q18); let q23 := (bif Sz.k q19 == Sz.k q20 && q21 then wN q10 (Qu.s c) (Qu.q c) (Qu.sp c) == wN q11 (Qu.s c) (Qu.q c) (Qu.sp c) else false); let q22 := (!zU true q23 || zU true q23); let q26 := (qm q11 (Qu.s c) (Qu.q c) q5); let q25 := (AV.xl false 1 (lN q26) fun i j => aI (List.getD
 q26 i zp.dflt)); let q24 := (!zU true q23 || za Int q25); let q28 := (bif bif Sz.k q19 == Sz.k q20 && q21 then wN q10 (Qu.s c) (Qu.q c) (Qu.sp c) == wN q11 (Qu.s c) (Qu.q c) (Qu.sp c) else false then zv q25 == zv q25 else false); let q27 := (!zU true q28 || zU true q28); let q29 := (bif bif bif Sz.k q19 == Sz.k q20 && q21 then wN q10 (Qu.s c) (Qu.q c) (Qu.sp c) == wN q11 (Qu.s c) (Qu.q c) (Qu.sp c) else false then zv q25 == zv q25 else false then WY q11 (Qu.s c) (Qu.q c) q5 == WY q11 (Qu.s c) (Qu.q c) q5 else false); zB [AV.agg 6 (zp.enc c), AV.xl false 11
 (lN ms) fun i j => zp.enc (gD ms i zp.dflt) j] → bF (ZH Qu q1) (bF (!zU false q2 || zU false q2) (bF (!zU false q2 || za Mb q4) (bF (!!Jx q3 || zU false q2) (zZ (bif Jx q3 then true else LA q5) (Wk [] [] ∧ true = true) (bF q6 (bF q6 (bF q6 (lN (Qu.sp c) ≤ nM ∧ bF q6 (lN (Qu.sp c) ≤ 100000000 ∧ bF q8 (bF q8 (bF (!!yh q10 (Qu.w c) (Qu.d c) (Qu.s c) (Qu.q c) != yh q11 (Qu.w c) (Qu.d c) (Qu.s c) (Qu.q c) || zU false q9) (bF q12 (bF q12 (bF ((!!bif yh q10 (Qu.w c) (Qu.d
 c) (Qu.s c) (Qu.q c) != yh q11 (Qu.w c) (Qu.d c) (Qu.s c) (Qu.q c) then true else yt q10 (Qu.w c) (Qu.d c) (Qu.s c) (Qu.q c) != yt q11 (Qu.w c) (Qu.d c) (Qu.s c) (Qu.q c)) || zU false q13) (bF q14 (bF q14 (zZ ((!!bif bif yh q10 (Qu.w c) (Qu.d c) (Qu.s c) (Qu.q c) != yh q11 (Qu.w c) (Qu.d c) (Qu.s c) (Qu.q c) then true else yt q10 (Qu.w c) (Qu.d c) (Qu.s c) (Qu.q c) != yt q11 (Qu.w c) (Qu.d c) (Qu.s c) (Qu.q c) then true else !tU q11 (Qu.w c) (Qu.d c) (Qu.s c) (Qu.q c) (Qu.sp c) == tU q11 (Qu.w c) (Qu.d c) (Qu.s c) (Qu.q c) (Qu.sp c)) || zU false q15)
 (zZ (bif bif bif yh q10 (Qu.w c) (Qu.d c) (Qu.s c) (Qu.q c) != yh q11 (Qu.w c) (Qu.d c) (Qu.s c) (Qu.q c) then true else yt q10 (Qu.w c) (Qu.d c) (Qu.s c) (Qu.q c) != yt q11 (Qu.w c) (Qu.d c) (Qu.s c) (Qu.q c) then true else !tU q11 (Qu.w c) (Qu.d c) (Qu.s c) (Qu.q c) (Qu.sp c) == tU q11 (Qu.w c) (Qu.d c) (Qu.s c) (Qu.q c) (Qu.sp c) then true else rj q11 (Qu.w c) (Qu.d c) (Qu.s c) (Qu.q c) (Qu.sp c) != rj q11 (Qu.w c) (Qu.d c) (Qu.s c) (Qu.q c) (Qu.sp c)) (false = true) (bF q6 (lN (Qu.sp c) ≤ nM ∧ bF q6 (lN (Qu.sp c) ≤ 100000000 ∧ zZ q16
 (bF q6 ((∀ (x : Mb), List.Mem x q5 → (lN (zD.x (Mb.fr x)) ≤ nX ∧ lN (zD.y (Mb.fr x)) ≤ nX ∧ lN (zD.z (Mb.fr x)) ≤ nX) ∧ lN (zD.x (Mb.to x)) ≤ nX ∧ lN (zD.y (Mb.to x)) ≤ nX ∧ lN (zD.z (Mb.to x)) ≤ nX) ∧ bF q16 (bF q6 ((lN q5 ≤ 512 → ∀ (x : Mb), List.Mem x q5 → (lN (zD.x (Mb.fr x)) ≤ 100000000 ∧ lN (zD.y (Mb.fr x)) ≤ 100000000 ∧ lN (zD.z (Mb.fr x)) ≤ 100000000) ∧ lN (zD.x
 (Mb.to x)) ≤ 100000000 ∧ lN (zD.y (Mb.to x)) ≤ 100000000 ∧ lN (zD.z (Mb.to x)) ≤ 100000000) ∧ bF q17 (bF q17 (bF (!q18 || zU true q18) (bF q22 (bF q22 (bF q24 (bF q24 (bF ((!bif Sz.k q19 == Sz.k q20 && q21 then wN q10 (Qu.s c) (Qu.q c) (Qu.sp c) == wN q11 (Qu.s c) (Qu.q c) (Qu.sp c) else false) || zU true q23) (bF q27 (bF q27 (zZ ((!bif bif Sz.k q19 == Sz.k q20 && q21 then wN q10 (Qu.s c) (Qu.q c) (Qu.sp c) == wN q11 (Qu.s c) (Qu.q c) (Qu.sp c) else false then zv q25 == zv q25 else false) || zU true q28) ((zU
 true q29 = true → Wk [] []) ∧ bF ((!bif bif bif Sz.k q19 == Sz.k q20 && q21 then wN q10 (Qu.s c) (Qu.q c) (Qu.sp c) == wN q11 (Qu.s c) (Qu.q c) (Qu.sp c) else false then zv q25 == zv q25 else false then WY q11 (Qu.s c) (Qu.q c) q5 == WY q11 (Qu.s c) (Qu.q c) q5 else false) || zU true q29) ((bif bif bif bif Sz.k q19 == Sz.k q20 && q21 then wN q10 (Qu.s c) (Qu.q c) (Qu.sp c) == wN q11 (Qu.s c) (Qu.q c) (Qu.sp c) else false then zv q25 == zv q25 else false then WY q11 (Qu.s c) (Qu.q c) q5 == WY q11 (Qu.s c) (Qu.q c) q5 else false then true else false) = true))
 False)))))))))))))) False)))) False))))))))))))))))) := by
 delta bF nX nM lN gD aI
 dsimp only
 intro hb
 have e2 : (zp.dflt : Row) = r0 := rfl
 have e3 : (zp.dflt : Mb) = m0 := rfl
 have e0 : (zp.dflt : Int) = 0 := rfl
 simp only [↓ZK, ↓ZT, row_one]
 simp only [sS, ZN, Zr, ZS, ZY, YJ, yn, W9, Yd, vN, YA, vk, Yb, YC, yM, e2, e3, e0, Mc, P1, rK, Uy, u6, vg, ga, kv]
 simp only [GK, Gx, gK, bne_self_eq_false, beq_self_eq_true, Bool.and_true, Bool.or_true, Bool.not_true, Bool.or_false, Yo, uU]
 refine zu.2 ⟨fun _ => Wk.refl _, fun h => ?_⟩
 rw [Bool.or_eq_false_iff] at h
 obtain ⟨h1, h2⟩ := h
 have ls : c.sp.length ≤ 610 := by
  unfold Jx at h1
  rw [Bool.or_eq_false_iff, Bool.eq_false_iff (b := zn 610 _), Ne, zq] at h1
  omega
 exact ⟨by omega, by omega, by omega, by omega, hl, Js h2, fun _ => Wk.refl _, trivial⟩
theorem Gv {G : List (Nat × Obj)} (hG : zM G) (c : Qu) (ms : List Mb) (hl : ∀ x ∈ ms, PL x) : zS Tryz.prog G 9 [yx c, Zp ms] (.b true) :=
 zV (T := GE G) (an := .auto) mixed (oO hG) (Eq.mp (by kernel_rfl) (H2 G c ms hl))
end Go.Te

namespace Go.Te
open Go Go.Sx Go.Proofs Go.Ar Go.RowKit
set_option maxRecDepth 100000
section
variable {H : Type} {enc : TypeId × Value → H} {W : World} {spare : Nat → Bool} {held : Bool}
theorem Tc : Tryz.prog.cellsOf 63 = 3 := by kernel_rfl
theorem PD : Tryz.prog.cellsOf 65 = 11 := by kernel_rfl
theorem V6 {n : Nat} {cs : List Value} {x : DataW H × List MemPlace} (h : DataW.trod enc Tryz.prog W 0 spare held n 23 cs = some x) : ∃ s : ByteArray, cs = [.string s] ∧ s.data.toList.length ≤ 9223372036854775807 := by
 obtain ⟨s, e, _, hs⟩ := DataW.trod_string Tryz.underlying23 h
 refine ⟨s, e, ?_⟩
 have e2 : s.data.toList.length = s.size := Array.length_toList
 have e3 : maxLen = 9223372036854775807 := rfl
 rw [e2]
 omega
theorem Ti {n : Nat} {cs : List Value} {x : DataW H × List MemPlace} (h : DataW.trod enc Tryz.prog W 0 spare held n 63 cs = some x) : ∃ g : zD, T7 W g cs ∧ Nx g := by
 obtain ⟨xs, m, _, _, hl, hx, hf⟩ := DataW.trod_struct Tryz.underlying63 h
 rw [Tc] at hl
 match cs, hl with
 | [c0, c1, c2], _ =>
 have hx3 : xs.length = 3 := hx
 have g0 : DataW.trod enc Tryz.prog W 0 spare held m 23 (([c0, c1, c2].drop 0).take (Tryz.prog.cellsOf 23)) = xs[0]? := hf 0 _ rfl
 have g1 : DataW.trod enc Tryz.prog W 0 spare held m 23 (([c0, c1, c2].drop 1).take (Tryz.prog.cellsOf 23)) = xs[1]? := hf 1 _ rfl
 have g2 : DataW.trod enc Tryz.prog W 0 spare held m 23 (([c0, c1, c2].drop 2).take (Tryz.prog.cellsOf 23)) = xs[2]? := hf 2 _ rfl
 rw [qF] at g0 g1 g2
 rw [List.getElem?_eq_getElem (by omega)] at g0 g1 g2
 obtain ⟨s0, e0, k0⟩ := V6 g0
 obtain ⟨s1, e1, k1⟩ := V6 g1
 obtain ⟨s2, e2, k2⟩ := V6 g2
 simp only [List.drop_zero, List.drop_succ_cons, List.take_succ_cons, List.take_zero, List.cons.injEq, and_true] at e0 e1 e2
 subst e0 e1 e2
 refine ⟨⟨s0.data.toList, s1.data.toList, s2.data.toList⟩, fun j hj => ?_, k0, k1, k2⟩
 match j, hj with
 | 0, _ => exact ⟨wG s0, rfl⟩
 | 1, _ => exact ⟨wG s1, rfl⟩
 | 2, _ => exact ⟨wG s2, rfl⟩
theorem KH {n : Nat} {cs : List Value} {x : DataW H × List MemPlace} (h : DataW.trod enc Tryz.prog W 0 spare held n 65 cs = some x) : ∃ g : Mb, T7 W g cs ∧ PL g := by
 obtain ⟨xs, m, _, _, hl, hx, hf⟩ := DataW.trod_struct Tryz.underlying65 h
 rw [PD] at hl
 match cs, hl with
 | [c0, c1, c2, c3, c4, c5, c6, c7, c8, c9, c10], _ =>
 have hx3 : xs.length = 7 := hx
 have g0 : DataW.trod enc Tryz.prog W 0 spare held m 3 (([c0, c1, c2, c3, c4, c5, c6, c7, c8, c9, c10].drop 0).take (Tryz.prog.cellsOf 3)) = xs[0]? := hf 0 _ rfl
 have g1 : DataW.trod enc Tryz.prog W 0 spare held m 3 (([c0, c1, c2, c3, c4, c5, c6, c7, c8, c9, c10].drop 1).take (Tryz.prog.cellsOf 3)) = xs[1]? := hf 1 _ rfl
 have g2 : DataW.trod enc Tryz.prog W 0 spare held m 3 (([c0, c1, c2, c3, c4, c5, c6, c7, c8, c9, c10].drop 2).take (Tryz.prog.cellsOf 3)) = xs[2]? := hf 2 _ rfl
 have g3 : DataW.trod enc Tryz.prog W 0 spare held m 63 (([c0, c1, c2, c3, c4, c5, c6, c7, c8, c9, c10].drop 3).take (Tryz.prog.cellsOf 63)) = xs[3]? := hf 3 _ rfl
 have g4 : DataW.trod enc Tryz.prog W 0 spare held m 63 (([c0, c1, c2, c3, c4, c5, c6, c7, c8, c9, c10].drop 6).take (Tryz.prog.cellsOf 63)) = xs[4]? := hf 4 _ rfl
 have g5 : DataW.trod enc Tryz.prog W 0 spare held m 3 (([c0, c1, c2, c3, c4, c5, c6, c7, c8, c9, c10].drop 9).take (Tryz.prog.cellsOf 3)) = xs[5]? := hf 5 _ rfl
 have g6 : DataW.trod enc Tryz.prog W 0 spare held m 3 (([c0, c1, c2, c3, c4, c5, c6, c7, c8, c9, c10].drop 10).take (Tryz.prog.cellsOf 3)) = xs[6]? := hf 6 _ rfl
 rw [Uq] at g0 g1 g2 g5 g6
 rw [Tc] at g3 g4
 rw [List.getElem?_eq_getElem (by omega)] at g0 g1 g2 g3 g4 g5 g6
 obtain ⟨z0, e0, _⟩ := yI g0
 obtain ⟨z1, e1, _⟩ := yI g1
 obtain ⟨z2, e2, _⟩ := yI g2
 obtain ⟨z5, e5, _⟩ := yI g5
 obtain ⟨z6, e6, _⟩ := yI g6
 obtain ⟨p, t3, l3⟩ := Ti g3
 obtain ⟨q, t4, l4⟩ := Ti g4
 simp only [List.drop_zero, List.drop_succ_cons, List.take_succ_cons, List.take_zero, List.cons.injEq, and_true] at e0 e1 e2 e5 e6
 subst e0 e1 e2 e5 e6
 refine ⟨⟨z0, z1, z2, p, q, z5, z6⟩, fun j hj => ?_, l3, l4⟩
 match j, hj with
 | 0, _ => exact ⟨.v _, rfl⟩
 | 1, _ => exact ⟨.v _, rfl⟩
 | 2, _ => exact ⟨.v _, rfl⟩
 | 3, _ => exact t3 0 (by decide)
 | 4, _ => exact t3 1 (by decide)
 | 5, _ => exact t3 2 (by decide)
 | 6, _ => exact t4 0 (by decide)
 | 7, _ => exact t4 1 (by decide)
 | 8, _ => exact t4 2 (by decide)
 | 9, _ => exact ⟨.v _, rfl⟩
 | 10, _ => exact ⟨.v _, rfl⟩
theorem mz {o : Option Addr} {n c : Nat} {d : DataW H} {ps : List MemPlace} (h : DataW.Trod enc Tryz.prog W 0 spare held 55 (.slice o n c) d ps) :
  ∃ l : List Mb, Zz W (kt W) yL (Zp l) (.slice o n c) ∧ ∀ x ∈ l, PL x := by
 obtain ⟨l, h1, h2⟩ := Lq (α := Mb) (Good := PL) Tryz.underlying55 PD ⟨⟨Nat.zero_le _, Nat.zero_le _, Nat.zero_le _⟩, Nat.zero_le _, Nat.zero_le _, Nat.zero_le _⟩ KH h
 refine ⟨l, h1, fun x hx => ?_⟩
 obtain ⟨i, hi, rfl⟩ := List.getElem_of_mem hx
 have := h2 i
 rw [List.getD_eq_getElem?_getD, List.getElem?_eq_getElem hi] at this
 exact this
end
end Go.Te
