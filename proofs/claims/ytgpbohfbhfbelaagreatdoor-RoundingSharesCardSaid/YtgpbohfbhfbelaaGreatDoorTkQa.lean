/- rational: what is told of numbers as rational numbers. -/
import Derived.Test.YtgpbohfbhfbelaaGreatDoorTkRc
import Derived.Test.YtgpbohfbhfbelaaGreatDoorArW
import Derived.Lib.BitFns
set_option linter.unusedSimpArgs false
set_option linter.unusedVariables false
namespace Go.Te
open Go Go.Sx Go.Proofs Go.Ar
set_option maxRecDepth 100000
set_option maxHeartbeats 4000000
theorem KO {k : Nat} {a : zj} (h : yX k a) (hk : 0 < k) (hk2 : k ≤ 300) : a.length ≤ 700 := by
 obtain ⟨h1, h2, h3⟩ := h.parts
 have a1 : Xu (zL a) ≤ k := x5 hk h1
 have a2 : Lib.nDigits (zo a) ≤ k := (ZX hk).2 h2
 rw [← wm (Zr.1 h.1).1]
 unfold YP
 rw [List.length_append, XK]
 have b2 : (bif Nat.beq (zo a) 1 then [] else 47 :: Lib.decDigits (zo a)).length ≤ 301 := by
  cases Nat.beq (zo a) 1 with
  | true => simp
  | false => rw [cond_false, List.length_cons, Lib.decDigits_length]; omega
 split <;> omega
theorem yQ {k : Nat} {a : zj} (h : yX k a) (hk : 0 < k) (hk2 : k ≤ 300) : a.length ≤ 9223372036854775807 := Nat.le_trans (KO h hk hk2) (by decide)
theorem KY {n d : Int} (hd : d ≠ 0) : xw n d = zu ((n : Rat) / (d : Rat)) := by
 unfold xw
 have e1 : ((d.natAbs : Nat) : Rat) = ((d.natAbs : Int) : Rat) := (Rat.intCast_natCast _).symm
 cases h : zM d 0 with
 | true =>
  have h := (zq _ _).1 h
  rw [cond_true, xn _ (by omega), Rat.mkRat_eq_div]
  congr 1
  rw [show (-d).toNat = d.natAbs by omega, e1, show ((d.natAbs : Nat) : Int) = -d by omega, Rat.intCast_neg, Rat.intCast_neg]
  grind
 | false =>
  have h : ¬ d < 0 := fun e => by rw [(zq _ _).2 e] at h; cases h
  rw [cond_false, xn _ (by omega), Rat.mkRat_eq_div]
  congr 1
  rw [show d.toNat = d.natAbs by omega, e1, show ((d.natAbs : Nat) : Int) = d by omega]
theorem x6 {k : Nat} {n : Int} (h : n.natAbs < 10 ^ k) (h0 : 0 < k) (hk : k ≤ 300) : ZN n = 0 := (Zp h0 hk h).2
theorem Ut {j k : Nat} {a b : zj} (ha : yX j a) (hb : yX k b) : (zL a * (zo b : Int)).natAbs < 10 ^ (j + k) ∧ (zL b * (zo a : Int)).natAbs < 10 ^ (j + k) ∧ (zL a * zL b).natAbs < 10 ^ (j + k) ∧ ((zo a : Int) * (zo b : Int)).natAbs < 10 ^ (j + k) := by
 obtain ⟨a1, a2, a3⟩ := ha.parts
 obtain ⟨b1, b2, b3⟩ := hb.parts
 refine ⟨?_, ?_, ?_, ?_⟩
 ·rw [Int.natAbs_mul, Int.natAbs_natCast]; exact YV a1 b2
 ·rw [Int.natAbs_mul, Int.natAbs_natCast, Nat.mul_comm]; exact YV a2 b1
 ·rw [Int.natAbs_mul]; exact YV a1 b1
 ·rw [← Int.natCast_mul, Int.natAbs_natCast]; exact YV a2 b2
theorem iJ {u v w k : Nat} (h1 : u < 10 ^ k) (h2 : v < 10 ^ k) (h : w ≤ u + v) : w < 10 ^ (k + 1) := by
 rw [Nat.pow_succ]; omega
theorem JJ {f : Int → Int → Int} (hf : ∀ u v, (f u v).natAbs ≤ u.natAbs + v.natAbs) {a b : zj} (ha : yX 140 a) (hb : yX 140 b) : um f a b = 0 ∧ Rk f a b = zu (mkRat (f (zL a * (zo b : Int)) (zL b * (zo a : Int))) (zo a * zo b)) := by
 obtain ⟨m1, m2, m3, m4⟩ := Ut ha hb
 have m5 := iJ m1 m2 (hf (zL a * (zo b : Int)) (zL b * (zo a : Int)))
 have e : um f a b = 0 := by
  unfold um Vt Je
  rw [ha.1, hb.1, x6 m1 (by decide) (by decide), x6 m2 (by decide) (by decide), x6 m5 (by omega) (by omega), x6 m4 (by decide) (by decide)]
  rfl
 refine ⟨e, ?_⟩
 unfold Rk
 rw [e]
 show ZI _ _ = _
 rw [xn _ (Nat.mul_pos ha.parts.2.2 hb.parts.2.2)]; rfl
def tu (c : zj → zj → Prop) (r : zj → zj → AV) : List AV → Option (List zN × AV)
 | [.str a, .str b] => some ([.p (c a b)], r a b)
 | _ => none
theorem R7 {P : Program} {G : List (Nat × Obj)} {f : FuncId} {c : zj → zj → Prop} {r : zj → zj → AV} (h : ∀ a b, c a b → zv P G f [.str a, .str b] (r a b)) : zQ P G f (tu c r) := by
 intro xs ps r' e hp
 unfold tu at e
 split at e
 ·cases e
  exact h _ _ (hp _ List.mem_cons_self)
 ·cases e
structure UU (k : Nat) (a b : zj) : Prop where
 fa : yX k a
 fb : yX k b
abbrev FU (f : Rat → Rat → Rat) (a b : zj) : AV := .tup 2 (zw [.str (zu (f (zP a) (zP b))), .i 0])
def SJ := tu (UU 140) (FU (· + ·))
theorem Ps {G : List (Nat × Obj)} (hG : zO G) : zQ Tryz.prog G 19 SJ := R7 fun a b h => by
 have := HB hG a b (yQ h.1 (by decide) (by decide)) (yQ h.2 (by decide) (by decide))
 obtain ⟨e1, e2⟩ := JJ (f := fun x y => x + y) (fun u v => by omega) h.1 h.2
 rw [e1, e2, kK h.1.parts.2.2 h.2.parts.2.2] at this
 exact this
def XB := tu (UU 140) (FU (· * ·))
theorem wJ {G : List (Nat × Obj)} (hG : zO G) : zQ Tryz.prog G 18 XB := R7 fun a b h => by
 have := IH hG a b (yQ h.1 (by decide) (by decide)) (yQ h.2 (by decide) (by decide))
 obtain ⟨m1, m2, m3, m4⟩ := Ut h.1 h.2
 have e1 : TH a b = 0 := by
  unfold TH
  rw [h.1.1, h.2.1, x6 m3 (by decide) (by decide), x6 m4 (by decide) (by decide)]
  rfl
 have e2 : o9 a b = zu (zP a * zP b) := by
  unfold o9
  rw [e1]
  show ZI _ _ = _
  rw [xn _ (Nat.mul_pos h.1.parts.2.2 h.2.parts.2.2), Kt]
 rw [e1, e2] at this
 exact this
def WX (p q : Rat) : Int := if p < q then -1 else if p = q then 0 else 1
theorem lA {a b : zj} (ha : zH a = 0) (hb : zH b = 0) : Yh (zL a * (zo b : Int)) (zL b * (zo a : Int)) = WX (zP a) (zP b) := by
 have h1 : zP a < zP b ↔ zL a * (zo b : Int) < zL b * (zo a : Int) := by rw [Rat.lt_iff, (ZE ha).1, (ZE ha).2, (ZE hb).1, (ZE hb).2]
 have h2 : zP a = zP b ↔ zL a * (zo b : Int) = zL b * (zo a : Int) := by rw [Rat.eq_iff_mul_eq_mul, (ZE ha).1, (ZE ha).2, (ZE hb).1, (ZE hb).2]
 unfold Yh WX
 generalize zL a * (zo b : Int) = x at *
 generalize zL b * (zo a : Int) = y at *
 by_cases h : x < y
 ·rw [(zq _ _).2 h, if_pos (h1.2 h)]; rfl
 ·rw [show zM x y = false from Bool.eq_false_iff.2 fun e => h ((zq _ _).1 e), if_neg fun e => h (h1.1 e)]
  by_cases h3 : x = y
  ·rw [if_pos (h2.2 h3), h3, beq_self_eq_true]; rfl
  ·rw [if_neg fun e => h3 (h2.1 e), beq_eq_false_iff_ne.2 h3]; rfl
def Sb := tu (UU 140) fun a b => .tup 2 (zw [.i (WX (zP a) (zP b)), .i 0])
theorem pJ {G : List (Nat × Obj)} (hG : zO G) : zQ Tryz.prog G 12 Sb := R7 fun a b h => by
 have := ij hG a b (yQ h.1 (by decide) (by decide)) (yQ h.2 (by decide) (by decide))
 obtain ⟨m1, m2, m3, m4⟩ := Ut h.1 h.2
 have e1 : Vt a b = 0 := by
  unfold Vt
  rw [h.1.1, h.2.1, x6 m1 (by decide) (by decide), x6 m2 (by decide) (by decide)]
  rfl
 have e2 : QS a b = WX (zP a) (zP b) := by
  unfold QS
  rw [e1]
  exact lA h.1.1 h.2.1
 rw [e1, e2] at this
 exact this
def qV (c : zj → Prop) (r : zj → AV) : List AV → Option (List zN × AV)
 | [.str a] => some ([.p (c a)], r a)
 | _ => none
theorem mM {P : Program} {G : List (Nat × Obj)} {f : FuncId} {c : zj → Prop} {r : zj → AV} (h : ∀ a, c a → zv P G f [.str a] (r a)) : zQ P G f (qV c r) := by
 intro xs ps r' e hp
 unfold qV at e
 split at e
 ·cases e
  exact h _ (hp _ List.mem_cons_self)
 ·cases e
def uV := qV (yX 300) fun _ => .i 0
theorem TP {G : List (Nat × Obj)} (hG : zO G) : zQ Tryz.prog G 29 uV := mM fun a h => by
 have := ip hG a (yQ h (by decide) (by decide))
 rw [h.1] at this
 exact this
theorem ni {a : zj} (h : zH a = 0) : zm a = Lib.itoa (zP a).num ∧ Z1 a = Lib.itoa ((zP a).den : Int) := by
 obtain ⟨v1, v2, v3, v4⟩ := N3 h
 rw [(ZE h).1, (ZE h).2, ← v3, ← v4, Yt (yq.1 v1).1, Yt (yq.1 v2).1]
 exact ⟨rfl, rfl⟩
theorem Lo (G : List (Nat × Obj)) (a : List UInt8) (hl : a.length ≤ 9223372036854775807) :
 zB [AV.str a] → lN a ≤ nX ∧ 3 = lN [AV.junk, AV.junk, AV.junk] ∧ ((True ∧ (bif zH a == iZ then zm a else []) = bif zH a == iZ then zm a else []) ∧ (bif zH a == iZ then Z1 a else []) = bif zH a == iZ then Z1 a else []) ∧ kI ∧ zH a = zH a := by
 delta nX kI lN iZ
 intro hb
 simp only [sS, dS]
 exact ⟨hl, rfl⟩
theorem JY {G : List (Nat × Obj)} (hG : zO G) (a : List UInt8) (hl : a.length ≤ 9223372036854775807) : zv Tryz.prog G 155 [.str a] (.tup 3 (zw [.str (bif zH a == 0 then zm a else []), .str (bif zH a == 0 then Z1 a else []), .i (zH a)])) :=
 zW (T := (Xz G).plus 32 XE) (an := .auto) mixed (zz.plus zr (vT hG)) (Eq.mp (by kernel_rfl) (Lo G a hl))
def TR := qV (yX 300) fun a => .tup 3 (zw [.str (Lib.itoa (zP a).num), .str (Lib.itoa ((zP a).den : Int)), .i 0])
theorem rq {G : List (Nat × Obj)} (hG : zO G) : zQ Tryz.prog G 155 TR := mM fun a h => by
 have := JY hG a (yQ h (by decide) (by decide))
 obtain ⟨e1, e2⟩ := ni h.1
 rw [h.1] at this
 simp only [beq_self_eq_true, cond_true] at this
 rw [e1, e2] at this
 exact this
def mX : List AV → Option (List zN × AV)
 | [.agg 2 p_x, .agg 2 p_y] => some ([.b (Z4 (p_x 0) && Z4 (p_x 1)), .b (Z4 (p_y 0) && Z4 (p_y 1)), .p (Vo (⟨AV.int (p_x 0), AV.int (p_x 1)⟩ : Nt)), .p (Vo (⟨AV.int (p_y 0), AV.int (p_y 1)⟩ : Nt))], yD (⟨(⟨AV.int (p_x 0), AV.int (p_x 1)⟩ : Nt).n * (⟨AV.int (p_y 0), AV.int (p_y 1)⟩ : Nt).d, (⟨AV.int (p_x 0), AV.int (p_x 1)⟩ : Nt).d * (⟨AV.int (p_y 0), AV.int (p_y 1)⟩ : Nt).n⟩ : Nt))
 | _ => none
theorem IW (x : Nt) (y : Nt) (h1 : Vo x) (h2 : Vo y) :
 zB [AV.agg 2 (zR.enc x), AV.agg 2 (zR.enc y)] → bF (dK (Nt.n x * Nt.d y)) (bF (dK (Nt.d x * Nt.n y)) (2 = 2 ∧ (kI ∧ Nt.n x * Nt.d y = Nt.n (Nt.mk (Nt.n x * Nt.d y) (Nt.d x * Nt.n y))) ∧ kI ∧ Nt.d x * Nt.n y = Nt.d (Nt.mk (Nt.n x * Nt.d y) (Nt.d x * Nt.n y)))) := by
 delta bF dK kI
 intro hb
 simp only [sS, dS]
 unfold Vo at h1 h2
 have m1 := y9 (a := x.n) (b := y.d) h1.1 ⟨by omega, h2.2.2⟩
 have m3 := y9 (a := x.d) (b := y.n) ⟨by omega, h1.2.2⟩ h2.1
 exact ⟨⟨by omega, by omega⟩, ⟨by omega, by omega⟩⟩
theorem Gr (x : Nt) (y : Nt) (h1 : Vo x) (h2 : Vo y) : zv Tryz.prog [] 213 [yD x, yD y] (yD (⟨x.n * y.d, x.d * y.n⟩ : Nt)) :=
 zW (T := T0) (an := .auto) mixed zr (Eq.mp (by kernel_rfl) (IW x y h1 h2))
theorem fU : zQ Tryz.prog [] 213 mX := by
 intro xs ps r h hp
 unfold mX at h
 split at h
 ·skip
  rename_i p_x p_y
  cases h
  obtain ⟨q0, q1, q2, q3, -⟩ := ZT hp
  exact weaken (ys := [yD (⟨AV.int (p_x 0), AV.int (p_x 1)⟩ : Nt), yD (⟨AV.int (p_y 0), AV.int (p_y 1)⟩ : Nt)]) ⟨zD (x := .agg 2 p_x) (α := Nt) q0, zD (x := .agg 2 p_y) (α := Nt) q1, trivial⟩ (Gr (⟨AV.int (p_x 0), AV.int (p_x 1)⟩ : Nt) (⟨AV.int (p_y 0), AV.int (p_y 1)⟩ : Nt) q2 q3)
 ·cases h
noncomputable def EQ (G : List (Nat × Obj)) : Tb := (((Xz G).plus 43 Wc).plus 44 uz).body Tryz.prog [(33, .auto)]
theorem nT {G : List (Nat × Obj)} (hG : zO G) : zz Tryz.prog (EQ G) := zz.body mixed (zz.plus (zz.plus zr (uu hG)) (Sg hG)) _
def lO : List AV → Option (List zN × AV)
 | [.agg 2 p_x, .agg 2 p_y] => some ([.b (z7 (p_x 0) && z7 (p_x 1)), .b (z7 (p_y 0) && z7 (p_y 1)), .p (uW (⟨AV.bytes (p_x 0), AV.bytes (p_x 1)⟩ : Pt)), .p (uW (⟨AV.bytes (p_y 0), AV.bytes (p_y 1)⟩ : Pt)), .p (zX (⟨AV.bytes (p_y 0), AV.bytes (p_y 1)⟩ : Pt).n ≠ 0), .p (ZN (zX (⟨AV.bytes (p_x 0), AV.bytes (p_x 1)⟩ : Pt).n * zX (⟨AV.bytes (p_y 0), AV.bytes (p_y 1)⟩ : Pt).d) = 0), .p (ZN (zX (⟨AV.bytes (p_y 0), AV.bytes (p_y 1)⟩ : Pt).n * zX (⟨AV.bytes (p_x 0), AV.bytes (p_x 1)⟩ : Pt).d) = 0)], .tup 2 (zw [.str (xw (zX (⟨AV.bytes (p_x 0), AV.bytes (p_x 1)⟩ : Pt).n * zX (⟨AV.bytes (p_y 0), AV.bytes (p_y 1)⟩ : Pt).d) (zX (⟨AV.bytes (p_y 0), AV.bytes (p_y 1)⟩ : Pt).n * zX (⟨AV.bytes (p_x 0), AV.bytes (p_x 1)⟩ : Pt).d)), .i 0]))
 | _ => none
theorem Hr (G : List (Nat × Obj)) (x : Pt) (y : Pt) (h1 : uW x) (h2 : uW y) (h3 : zX y.n ≠ 0) (h4 : ZN (zX x.n * zX y.d) = 0) (h5 : ZN (zX y.n * zX x.d) = 0) :
 let q1 := (True ∧ bA #[] = xw (zX (Pt.n x) * zX (Pt.d y)) (zX (Pt.n y) * zX (Pt.d x))); let q2 := (Yi (fun (x1 x2 : Int) => x1 * x2) (Pt.n x) (Pt.d y) != iZ); let q3 := (bA #[]); let q4 := (zX q3); let q5 := (Z5 (fun (x1 x2 : Int) => x1 * x2) (Pt.n x) (Pt.d y)); let q6 := (Z5 (fun (x1 x2 : Int) => x1 * x2) (Pt.n y) (Pt.d x)); zB [AV.agg 2 (zR.enc x), AV.agg 2 (zR.enc y)] → zZ (Pt.n y == bA #[(48 : UInt8)]) (j2
 ∧ q1 ∧ kI ∧ (12 : Int) = iZ) (lN (Pt.n x) ≤ nM ∧ lN (Pt.d y) ≤ nM ∧ zZ q2 (zZ q2 (j2 ∧ q1 ∧ kI ∧ Yi (fun (x1 x2 : Int) => x1 * x2) (Pt.n x) (Pt.d y) = iZ) (ZU q3 = iZ ∧ ZU q3 = iZ ∧ zX q3 ≠ iZ ∧ j2 ∧ (True ∧ xw q4 q4 = xw (zX (Pt.n x) * zX (Pt.d y)) (zX (Pt.n y) * zX (Pt.d x))) ∧ kI ∧ iZ = iZ)) (lN (Pt.n y) ≤ nM ∧ lN (Pt.d x) ≤ nM ∧ zZ (Yi
 (fun (x1 x2 : Int) => x1 * x2) (Pt.n y) (Pt.d x) != iZ) (j2 ∧ q1 ∧ kI ∧ Yi (fun (x1 x2 : Int) => x1 * x2) (Pt.n y) (Pt.d x) = iZ) (ZU q5 = iZ ∧ ZU q6 = iZ ∧ zX q6 ≠ iZ ∧ j2 ∧ (True ∧ xw (zX q5) (zX q6) = xw (zX (Pt.n x) * zX (Pt.d y)) (zX (Pt.n y) * zX (Pt.d x))) ∧ kI ∧ iZ = iZ))) := by
 delta bA nM kI j2 lN iZ
 dsimp only
 intro hb
 simp only [sS, dS]
 obtain ⟨a1, a2, a3⟩ := h1
 obtain ⟨b1, b2, b3⟩ := h2
 have l1 := (yY a1).2.1
 have l2 := (yY a2).2.1
 have l3 := (yY b1).2.1
 have l4 := (yY b2).2.1
 obtain ⟨p1, p2⟩ := wP (f := fun x1 x2 => x1 * x2) a1 b2
 obtain ⟨p3, p4⟩ := wP (f := fun x1 x2 => x1 * x2) b1 a2
 obtain ⟨r1, r2, r3⟩ := Wh h4
 obtain ⟨r4, r5, r6⟩ := Wh h5
 rw [p1, p2, p3, p4, h4, h5, r2, r5]
 refine zY.2 ⟨fun c => absurd (by rw [eq_of_beq c]; decide) h3, fun _ => ⟨by omega, by omega, fun h => absurd rfl h, fun _ => ⟨by omega, by omega, fun h => absurd rfl h, fun _ => ⟨r1, r4, Int.mul_ne_zero h3 a3, rfl, rfl⟩⟩⟩⟩
theorem fI {G : List (Nat × Obj)} (hG : zO G) (x : Pt) (y : Pt) (h1 : uW x) (h2 : uW y) (h3 : zX y.n ≠ 0) (h4 : ZN (zX x.n * zX y.d) = 0) (h5 : ZN (zX y.n * zX x.d) = 0) : zv Tryz.prog G 214 [yD x, yD y] (.tup 2 (zw [.str (xw (zX x.n * zX y.d) (zX y.n * zX x.d)), .i 0])) :=
 zW (T := EQ G) (an := .auto) mixed (nT hG) (Eq.mp (by kernel_rfl) (Hr G x y h1 h2 h3 h4 h5))
theorem Gq {G : List (Nat × Obj)} (hG : zO G) : zQ Tryz.prog G 214 lO := by
 intro xs ps r h hp
 unfold lO at h
 split at h
 ·skip
  rename_i p_x p_y
  cases h
  obtain ⟨q0, q1, q2, q3, q4, q5, q6, -⟩ := ZT hp
  exact weaken (ys := [yD (⟨AV.bytes (p_x 0), AV.bytes (p_x 1)⟩ : Pt), yD (⟨AV.bytes (p_y 0), AV.bytes (p_y 1)⟩ : Pt)]) ⟨zD (x := .agg 2 p_x) (α := Pt) q0, zD (x := .agg 2 p_y) (α := Pt) q1, trivial⟩ (fI hG (⟨AV.bytes (p_x 0), AV.bytes (p_x 1)⟩ : Pt) (⟨AV.bytes (p_y 0), AV.bytes (p_y 1)⟩ : Pt) q2 q3 q4 q5 q6)
 ·cases h
noncomputable def eK (G : List (Nat × Obj)) : Tb := (((((Xz G).plus 32 XE).plus 30 v7).plus 98 Rv).plus 213 mX).plus 214 lO |>.body Tryz.prog [(39, .auto), (41, .auto)]
theorem nZ {G : List (Nat × Obj)} (hG : zO G) : zz Tryz.prog (eK G) :=
 zz.body mixed (zz.plus (zz.plus (zz.plus (zz.plus (zz.plus zr (vT hG)) (zQ.mono Uk)) (MQ hG)) (zQ.mono fU)) (Gq hG)) _
theorem Ga {a b : zj} (ha : yX 140 a) (hb : yX 140 b) (hp : zP b ≠ 0) : zL b ≠ 0 ∧ (zo a : Int) * zL b ≠ 0 ∧ xw (zL a * (zo b : Int)) (zL b * (zo a : Int)) = zu (zP a / zP b) := by
 have h0 : zL b ≠ 0 := fun e => hp (by unfold zP; rw [e]; exact Rat.zero_mkRat _)
 have da := ha.parts.2.2
 have db := hb.parts.2.2
 refine ⟨h0, Int.mul_ne_zero (by omega) h0, ?_⟩
 rw [KY (Int.mul_ne_zero h0 (by omega))]
 congr 1
 unfold zP
 rw [Rat.mkRat_eq_div, Rat.mkRat_eq_div, Rat.intCast_mul, Rat.intCast_mul, Rat.intCast_natCast, Rat.intCast_natCast]
 have e1 : ((zo a : Nat) : Rat) ≠ 0 := fun e => by have := Rat.natCast_eq_zero_iff.1 e; omega
 have e2 : ((zo b : Nat) : Rat) ≠ 0 := fun e => by have := Rat.natCast_eq_zero_iff.1 e; omega
 have e3 : ((zL b : Int) : Rat) ≠ 0 := fun e => h0 (Rat.intCast_eq_zero_iff.1 e)
 grind
theorem jr (G : List (Nat × Obj)) (a : List UInt8) (b : List UInt8) (ha : yX 140 a) (hc : yX 140 b) (hp : zP b ≠ 0) :
 let q2 := (True ∧ bA #[] = zu (zP a / zP b)); let q6 := (Value.agg #[Value.string (ByteArray.mk #[]), Value.string (ByteArray.mk #[])]); let q5 := (fun (i : Nat) => if 0 ≤ i ∧ i < 0 + 2 then zw [AV.str (bif zH a == iZ then zm a else []), AV.str (bif zH a == iZ then Z1 a else [])] (i - 0) else ZC q6 i); let q4 := (Pt.mk (AV.bytes (q5 0)) (AV.bytes (q5 1))); let q3 := (Pt.n q4); let q7 := (Pt.d q4); let q10 := (fun (i : Nat) => if 0 ≤ i ∧ i < 0 + 2 then zw [AV.str (bif zH b == iZ then zm b else []), AV.str
 (bif zH b == iZ then Z1 b else [])] (i - 0) else ZC q6 i); let q9 := (Pt.mk (AV.bytes (q10 0)) (AV.bytes (q10 1))); let q8 := (Pt.n q9); let q11 := (Pt.d q9); let q12 := (zX q3 * zX q11); let q13 := (zX q8 * zX q7); let q1 := (lN a ≤ nX ∧ zZ (zH a != iZ) (j2 ∧ q2 ∧ kI ∧ zH a = iZ) (lN b ≤ nX ∧ zZ (zH b != iZ) (j2 ∧ q2 ∧ kI ∧ zH b = iZ) ((ZU q3 = iZ ∧ ZU q7 = iZ ∧
 zX q7 ≠ iZ) ∧ (ZU q8 = iZ ∧ ZU q11 = iZ ∧ zX q11 ≠ iZ) ∧ zX q8 ≠ iZ ∧ ZN q12 = iZ ∧ ZN q13 = iZ ∧ j2 ∧ (True ∧ xw q12 q13 = zu (zP a / zP b)) ∧ kI ∧ iZ = iZ))); let q16 := (Value.agg #[Value.int .i64 iZ, Value.int .i64 iZ]); let q15 := (fun (i : Nat) => if 0 ≤ i ∧ i < 0 + 2 then zw [AV.i (bif zC a then zL a else iZ), AV.i (bif zC a then (cI (zo a)) else iZ)] (i - 0) else ZC q16 i); let q14 := (Nt.mk (AV.int (q15 0))
 (AV.int (q15 1))); let q18 := (fun (i : Nat) => if 0 ≤ i ∧ i < 0 + 2 then zw [AV.i (bif zC b then zL b else iZ), AV.i (bif zC b then (cI (zo b)) else iZ)] (i - 0) else ZC q16 i); let q17 := (Nt.mk (AV.int (q18 0)) (AV.int (q18 1))); let q20 := (Nt.mk (Nt.n q14 * Nt.d q17) (Nt.d q14 * Nt.n q17)); let q19 := (Nt.mk (AV.int (aI (Nt.n q20))) (AV.int (aI (Nt.d q20)))); zB [AV.str a, AV.str b] → zZ (!b == bA #[(48 : UInt8)]) (lN a ≤ nX ∧ zZ (!zC a) q1
 (lN b ≤ nX ∧ zZ (!zC b) q1 ((((-99999999 : Int) ≤ Nt.n q14 ∧ Nt.n q14 ≤ (99999999 : Int)) ∧ iZ < Nt.d q14 ∧ Nt.d q14 ≤ (99999999 : Int)) ∧ (((-99999999 : Int) ≤ Nt.n q17 ∧ Nt.n q17 ≤ (99999999 : Int)) ∧ iZ < Nt.d q17 ∧ Nt.d q17 ≤ (99999999 : Int)) ∧ Nt.d q19 ≠ iZ ∧ ((-1000000000000000000 : Int) ≤ Nt.d q19 ∧ Nt.d q19 ≤ (1000000000000000000 : Int)) ∧ ((-1000000000000000000 : Int) ≤ Nt.n q19 ∧ Nt.n q19 ≤ (1000000000000000000 : Int)) ∧ j2 ∧ (True ∧ xw (Nt.n q19) (Nt.d q19) = zu (zP a / zP b)) ∧ IntKind.i64 =
 .i64 ∧ iZ = iZ))) q1 := by
 delta bA nX cI kI j2 lN iZ aI
 dsimp only
 intro hb
 simp only [sS, dS]
 obtain ⟨n0, n1, n2⟩ := Ga ha hc hp
 have h0 : (b == [48]) = false := beq_eq_false_iff_ne.2 fun e => by subst e; exact n0 (by decide)
 have la := yQ ha (by decide) (by decide)
 have lb := yQ hc (by decide) (by decide)
 obtain ⟨m1, m2, m3, m4⟩ := Ut ha hc
 have p1 := WH ha.1
 have p2 := WH hc.1
 obtain ⟨_, _, v1, v2⟩ := N3 ha.1
 obtain ⟨_, _, v3, v4⟩ := N3 hc.1
 have r1 := x6 m1 (by decide) (by decide)
 have r2 := x6 m2 (by decide) (by decide)
 have q3 : zX (zm b) ≠ 0 := by rw [v3]; exact n0
 have q4 : ZN (zX (zm a) * zX (Z1 b)) = 0 := by rw [v1, v4]; exact r1
 have q5 : ZN (zX (zm b) * zX (Z1 a)) = 0 := by rw [v3, v2]; exact r2
 have q6 : xw (zX (zm a) * zX (Z1 b)) (zX (zm b) * zX (Z1 a)) = zu (zP a / zP b) := by rw [v1, v2, v3, v4]; exact n2
 rw [h0]
 refine zY.2 ⟨fun _ => ⟨la, zY.2 ⟨fun c => ?_, fun c => ⟨lb, zY.2 ⟨fun c2 => ?_, fun c2 => ?_⟩⟩⟩⟩, fun c => by cases c⟩
 rotate_left 2
 ·rw [Bool.not_eq_false'] at c c2
  obtain ⟨a1, a2, a3⟩ := yk c
  obtain ⟨b1, b2, b3⟩ := yk c2
  have w1 := y9 (a := zL a) (b := (zo b : Int)) ⟨by omega, by omega⟩ ⟨by omega, by omega⟩
  have w2 := y9 (a := (zo a : Int)) (b := zL b) ⟨by omega, by omega⟩ ⟨by omega, by omega⟩
  rw [c, c2]
  simp only [cond_true]
  have w3 : -1000000000000000000 ≤ (zo a : Int) * zL b ∧ (zo a : Int) * zL b ≤ 1000000000000000000 := ⟨by omega, by omega⟩
  have w4 : -1000000000000000000 ≤ zL a * (zo b : Int) ∧ zL a * (zo b : Int) ≤ 1000000000000000000 := ⟨by omega, by omega⟩
  rw [Int.mul_comm (zL b)] at n2
  exact ⟨uI c, uI c2, n1, w3, w4, rfl, n2⟩
 all_goals
  rw [ha.1, hc.1]
  exact ⟨la, fun h => absurd rfl h, fun _ => ⟨lb, fun h => absurd rfl h, fun _ => ⟨p1, p2, q3, q4, q5, rfl, q6⟩⟩⟩
theorem Ir {G : List (Nat × Obj)} (hG : zO G) (a : List UInt8) (b : List UInt8) (ha : yX 140 a) (hc : yX 140 b) (hp : zP b ≠ 0) : zv Tryz.prog G 164 [.str a, .str b] (.tup 2 (zw [.str (zu (zP a / zP b)), .i 0])) :=
 zW (T := eK G) (an := .auto) mixed (nZ hG) (Eq.mp (by kernel_rfl) (jr G a b ha hc hp))
structure gI (a b : zj) : Prop where
 fa : yX 140 a
 fb : yX 140 b
 ne : zP b ≠ 0
def rM := tu gI (FU (· / ·))
theorem Pi {G : List (Nat × Obj)} (hG : zO G) : zQ Tryz.prog G 164 rM := R7 fun a b h => Ir hG a b h.1 h.2 h.3
end Go.Te

namespace Go.Te
open Go Go.Sx Go.Proofs Go.Ar Go.RowKit
set_option maxRecDepth 100000
set_option maxHeartbeats 4000000
def lL : List AV → Option (List zN × AV)
 | [.v (.int .i64 n), .v (.int .i64 d)] => some ([.p (-10000000000000000 ≤ n ∧ n ≤ 10000000000000000), .p (0 < d ∧ d ≤ 10000000000000000)], .tup 2 (zw [.str (ZI n d.toNat), .i 0]))
 | _ => none
theorem HX (G : List (Nat × Obj)) (n : Int) (d : Int) (hn : -10000000000000000 ≤ n ∧ n ≤ 10000000000000000) (hd : 0 < d ∧ d ≤ 10000000000000000) :
 zB [aI n, aI d] → zZ (d == iZ) (j2 ∧ (True ∧ bA #[] = ZI n (Int.toNat d)) ∧ kI ∧ (12 : Int) = iZ) (zZ (d == iO) ((iN ≤ n ∧ n ≤ iX) ∧ j2 ∧ (True ∧ Lib.itoa n = ZI n (Int.toNat d)) ∧ kI ∧ iZ = iZ) ((iN ≤ n ∧ n ≤ iX) ∧ (iN ≤ d ∧ d ≤
 iX) ∧ ZU (Lib.itoa n) = iZ ∧ ZU (Lib.itoa d) = iZ ∧ zX (Lib.itoa d) ≠ iZ ∧ j2 ∧ (True ∧ xw (zX (Lib.itoa n)) (zX (Lib.itoa d)) = ZI n (Int.toNat d)) ∧ kI ∧ iZ = iZ)) := by
 delta bA kI j2 iZ iO iX iN aI
 intro hb
 simp only [sS, dS]
 have key : ∀ m : Int, m.natAbs ≤ 10000000000000000 → ZU (Lib.itoa m) = 0 := fun m hm => by
  rw [Ym]
  exact x6 (k := 17) (Nat.lt_of_le_of_lt hm (by decide)) (by decide) (by decide)
 have hs : xw (zX (Lib.itoa n)) (zX (Lib.itoa d)) = ZI n d.toNat := by
  rw [(za n).2, (za d).2]
  unfold xw
  rw [show zM d 0 = false from Bool.eq_false_iff.2 fun e => by have := (zq _ _).1 e; omega]; rfl
 rw [hs]
 exact ⟨fun h => by omega, fun _ => ⟨fun h => ⟨⟨by omega, by omega⟩, rfl, by rw [h]; exact nC.symm⟩, fun _ => ⟨⟨by omega, by omega⟩, ⟨by omega, by omega⟩, key n (by omega), key d (by omega), by rw [(za d).2]; omega, rfl, rfl⟩⟩⟩
theorem G1 {G : List (Nat × Obj)} (hG : zO G) (n : Int) (d : Int) (hn : -10000000000000000 ≤ n ∧ n ≤ 10000000000000000) (hd : 0 < d ∧ d ≤ 10000000000000000) : zv Tryz.prog G 249 [.i n, .i d] (.tup 2 (zw [.str (ZI n d.toNat), .i 0])) :=
 zW (T := (LC G).plus 44 uz) (an := .auto) mixed (zz.plus (YK hG) (Sg hG)) (Eq.mp (by kernel_rfl) (HX G n d hn hd))
theorem fW {G : List (Nat × Obj)} (hG : zO G) : zQ Tryz.prog G 249 lL := by
 intro xs ps r h hp
 unfold lL at h
 split at h
 ·skip
  rename_i n d
  cases h
  obtain ⟨q0, q1, -⟩ := ZT hp
  exact weaken (ys := [.i n, .i d]) ⟨zV _, zV _, trivial⟩ (G1 hG n d q0 q1)
 ·cases h
def PL : List AV → Option (List zN × AV)
 | [.v (.int .u64 x)] => some ([.p (0 ≤ x ∧ x ≤ 18446744073709551615)], .i (Lib.bitLen x.toNat))
 | _ => none
theorem It : zQ Tryz.prog [] 242 PL := by
 intro xs ps r h hp
 unfold PL at h
 split at h
 ·rename_i x
  cases h
  have q : 0 ≤ x ∧ x ≤ 18446744073709551615 := hp _ List.mem_cons_self
  refine ⟨enters_of Tryz.func242 (by kernel_rfl) rfl, fun w S vals hS hg hr => ?_⟩
  match vals, hr with
  | [v], ⟨hv, _⟩ =>
  obtain rfl := ZS hv
  refine (Tryz.bits_Len x w q.1 q.2).mono ?_
  rintro e w' ⟨rfl, rfl⟩
  exact ⟨⟨Below.refl _ _, Nat.le_refl _⟩, _, rfl, .v _⟩
 ·cases h
theorem Ji : ∀ (f x : Nat), x < 2 ^ f → x < 2 ^ Lib.bitLenAux f x ∧ (x ≠ 0 → 2 ^ Lib.bitLenAux f x ≤ 2 * x) ∧ (x = 0 → Lib.bitLenAux f x = 0)
 | 0, x, h => by
  have : x = 0 := by simpa using h
  subst this
  exact ⟨by decide, fun h => absurd rfl h, fun _ => rfl⟩
 | f + 1, x, h => by
  unfold Lib.bitLenAux
  split
  ·rename_i h0
   exact ⟨by rw [h0]; decide, fun h1 => absurd h0 h1, fun _ => rfl⟩
  ·rename_i h0
   obtain ⟨h1, h2, h3⟩ := Ji f (x / 2) (by rw [Nat.pow_succ] at h; omega)
   rw [Nat.pow_add]
   refine ⟨by omega, fun _ => ?_, fun e => absurd e h0⟩
   by_cases hx : x / 2 = 0
   ·rw [h3 hx]; omega
   ·have := h2 hx
    omega
theorem F3 {x : Nat} (h0 : x ≠ 0) (h : x ≤ 1000000000000000000) : x < 2 ^ Lib.bitLen x ∧ Lib.bitLen x ≤ 60 := by
 obtain ⟨h1, h2, _⟩ := Ji 64 x (Nat.lt_of_le_of_lt h (by decide))
 refine ⟨h1, Nat.le_of_not_lt fun hl => ?_⟩
 have := h2 h0
 have h3 : 2 ^ 61 ≤ 2 ^ Lib.bitLenAux 64 x := Nat.pow_le_pow_right (by omega) hl
 have h4 : 2 ^ 61 = 2305843009213693952 := by decide
 omega
def NJ (n : Int) : yV :=
 .two .auto (.two .auto (.two .auto (.one (.loop Nat (fun σ z => [(0, σ.tm 0), (3, .i (z : Int))]) (fun σ z => []) 0 (fun σ z => 0 < z ∧ z ≤ 4294967296 ∧ n.toNat < (z + 1) * (z + 1)) (fun σ z => z) .auto))))
def Ur : List AV → Option (List zN × AV)
 | [.v (.int .i64 n)] => some ([.p (0 ≤ n ∧ n ≤ 1000000000000000000)], .i (Yx n.toNat : Int))
 | _ => none
theorem M1 (n : Int) (h : 0 ≤ n ∧ n ≤ 1000000000000000000) :
 zB [aI n] → zZ (zM n (2 : Int)) (kI ∧ n = (cI (Yx (Int.toNat n)))) (bF (DB.db (ZB IntKind.u64 n)) ((iZ ≤ n ∧ n ≤ (18446744073709551615 : Int)) ∧ bF (dK ((cI (Lib.bitLen (Int.toNat n))) + iO)) (bF (DB.db (ZB .i64 (Int.tdiv ((cI (Lib.bitLen (Int.toNat n))) + iO) (2 : Int)))) ((∃ (z : Nat), ((0 < z ∧ z ≤ 4294967296 ∧ Int.toNat n < (z + 1) * (z + 1)) ∧ (kI ∧ n = n) ∧ kI ∧ IntKind.wrap IntKind.i64 (iO * (2 : Int) ^ min (Int.toNat (Int.tdiv ((cI (Lib.bitLen
 (Int.toNat n))) + iO) (2 : Int))) 64) = (cI z)) ∧ True) ∧ ∀ (z : Nat), 0 < z ∧ z ≤ 4294967296 ∧ Int.toNat n < (z + 1) * (z + 1) → bF (DB.db ((cI z) ≠ iZ)) (bF (dK (Int.tdiv n (cI z))) (bF (dK ((cI z) + Int.tdiv n (cI z))) (bF (dK (Int.tdiv ((cI z) + Int.tdiv n (cI z)) (2 : Int))) (zZ (leB (cI z) (Int.tdiv ((cI z) + Int.tdiv n (cI z)) (2 : Int))) (kI ∧ (cI z) = (cI (Yx (Int.toNat n)))) (∃ (z' : Nat), (((0 < z' ∧ z' ≤ 4294967296 ∧ Int.toNat n < (z' +
 1) * (z' + 1)) ∧ z' < z) ∧ (kI ∧ n = n) ∧ kI ∧ Int.tdiv ((cI z) + Int.tdiv n (cI z)) (2 : Int) = (cI z')) ∧ True))))))))) := by
 delta bF dK cI kI iZ iO aI
 intro hb
 simp only [sS, dS]
 obtain ⟨m, rfl⟩ : ∃ m : Nat, n = m := ⟨n.toNat, by omega⟩
 rw [Int.toNat_natCast]
 refine ⟨fun hs => ?_, fun hs => ?_⟩
 ·have : m = 0 ∨ m = 1 := by omega
  rcases this with rfl | rfl <;> decide +kernel
 obtain ⟨b1, b2⟩ := F3 (x := m) (by omega) (by omega)
 have hm64 : m < 18446744073709551616 := by omega
 obtain ⟨s1, s2⟩ := xG hm64
 have hk : ((Lib.bitLen m : Int) + 1).tdiv 2 = (((Lib.bitLen m + 1) / 2 : Nat) : Int) := by
  rw [Int.tdiv_eq_ediv_of_nonneg (by omega)]; omega
 have hp : 2 ^ ((Lib.bitLen m + 1) / 2) ≤ 2 ^ 31 := Nat.pow_le_pow_right (by omega) (by omega)
 have hp2 : 2 ^ Lib.bitLen m ≤ 2 ^ ((Lib.bitLen m + 1) / 2) * 2 ^ ((Lib.bitLen m + 1) / 2) := by
  rw [← Nat.pow_add]
  exact Nat.pow_le_pow_right (by omega) (by omega)
 have hp0 : 0 < 2 ^ ((Lib.bitLen m + 1) / 2) := Nat.pow_pos (by omega)
 have h31 : 2 ^ 31 = 2147483648 := by decide
 rw [hk, Int.toNat_natCast, show min ((Lib.bitLen m + 1) / 2) 64 = (Lib.bitLen m + 1) / 2 by omega, Int.one_mul, show ((2 : Int) ^ ((Lib.bitLen m + 1) / 2)) = ((2 ^ ((Lib.bitLen m + 1) / 2) : Nat) : Int) by rw [Int.natCast_pow]; rfl]
 generalize 2 ^ ((Lib.bitLen m + 1) / 2) = z0 at *
 refine ⟨by simp only [ZB]; omega, ⟨by omega, by omega⟩, by simp only [ZB]; omega, by simp only [ZB]; omega, ⟨z0, ⟨hp0, by omega, ?_⟩, ?_⟩, fun z ⟨z1, z2, z3⟩ => ?_⟩
 ·have : (z0 + 1) * (z0 + 1) = z0 * z0 + 2 * z0 + 1 := by grind
  omega
 ·rw [wG (by simp only [ZB]; omega)]
 have e1 : (m : Int).tdiv (z : Int) = ((m / z : Nat) : Int) := by rw [Int.tdiv_eq_ediv_of_nonneg (by omega), Int.natCast_ediv]
 have hml : m / z ≤ m := Nat.div_le_self _ _
 have g1 := oG (n := m) (r := z) (s := Yx m) z1 s1
 have g2 := sF (n := m) (r := z) z1
 have hs0 : 0 < Yx m := Nat.pos_of_ne_zero fun e => by rw [e] at s2; omega
 rw [e1]
 generalize m / z = q at *
 have e2 : ((z : Int) + (q : Int)).tdiv 2 = (((z + q) / 2 : Nat) : Int) := by rw [Int.tdiv_eq_ediv_of_nonneg (by omega)]; omega
 rw [e2]
 refine ⟨by omega, by simp only [ZB]; omega, by simp only [ZB]; omega, by simp only [ZB]; omega, fun h => ?_, fun h => ⟨(z + q) / 2, ⟨⟨by omega, by omega, ?_⟩, by omega⟩, rfl⟩⟩
 ·rw [LZ hm64 (g2 (by omega)) z3]
 ·exact Nat.lt_of_lt_of_le s2 (Nat.mul_le_mul (by omega) (by omega))
theorem KN (n : Int) (h : 0 ≤ n ∧ n ≤ 1000000000000000000) : zv Tryz.prog [] 248 [.i n] (.i (Yx n.toNat : Int)) :=
 zW (T := T0.plus 242 PL) (an := NJ n) mixed (zz.plus zr It) (Eq.mp (by kernel_rfl) (M1 n h))
theorem oD : zQ Tryz.prog [] 248 Ur := by
 intro xs ps r h hp
 unfold Ur at h
 split at h
 ·skip
  rename_i n
  cases h
  obtain ⟨q0, -⟩ := ZT hp
  exact weaken (ys := [.i n]) ⟨zV _, trivial⟩ (KN n q0)
 ·cases h
theorem KZ : ∀ i ∈ List.range 25, Zy (strOf (zK.getD i undef)) = true ∧ zX (strOf (zK.getD i undef)) = (YW.getD i 0 : Int) ∧ (strOf (zK.getD i undef)).length ≤ 18 := by decide
theorem O2 : ∀ z ∈ List.range 25, YW.take (z + 1) = YW.take z ++ [YW.getD z 0] ∧ 2 ≤ YW.getD z 0 ∧ YW.getD z 0 < 98 := by decide
noncomputable def EP (G : List (Nat × Obj)) : Tb := (((LC G).plus 134 uK).plus 248 Ur).plus 249 lL
theorem O3 {G : List (Nat × Obj)} (hG : zO G) : zz Tryz.prog (EP G) := zz.plus (zz.plus (zz.plus (YK hG) (zQ.mono RS)) (zQ.mono oD)) (fW hG)
def RJ (m : Nat) (z : Nat) : Nat × Nat := y8 (YW.take z) (1, m)
def lK (m : Nat) : yV :=
 .two .auto (.two .auto (.two (.two .auto (.one (.loop Nat (fun σ z => [(1, σ.tm 1), (18, σ.tm 18), (6, .i ((RJ m z).1 : Int)), (7, .i ((RJ m z).2 : Int)), (19, .i (z : Int))]) (fun σ z => []) 0 (fun σ z => z ≤ 25) (fun σ z => 25 - z) (.two .auto (.two .auto (.two (.one (.two .auto (.two .auto (.one (.loop (Nat × Nat) (fun σ z => [(1, σ.tm 1), (10, σ.tm 10), (18, σ.tm 18), (19, σ.tm 19), (6, .i (z.1 : Int)), (7, .i (z.2 : Int))]) (fun σ z => []) 0 (fun σ z => 0 < z.1 ∧ 0 < z.2 ∧ z.1 * z.1 * z.2 = m ∧ strip (AV.int (σ.tm 10)).toNat z = RJ m ((AV.int (σ.tm 19)).toNat + 1)) (fun σ z => z.2) .auto))))) .auto)))))) .auto))
theorem M0 (t : TypeId) (fr : Nat × Nat) (G : List (Nat × Obj)) (n d : Int) (hn : 0 < n) (hd : 0 < d ∧ d ≤ 10000000000000000) (hm : n * d ≤ 100000000000000000) :
 let q1 := (25 = 25 ∧ (((((((((((((((((((((((strOf (Array.getD zK (nat_lit 0) undef) = strOf (Array.getD zK (nat_lit 0) undef) ∧ strOf (Array.getD zK (nat_lit 1) undef) = strOf (Array.getD zK (nat_lit 1) undef)) ∧ strOf (Array.getD zK (nat_lit 2) undef) = strOf (Array.getD zK (nat_lit 2) undef)) ∧ strOf (Array.getD zK (nat_lit 3) undef) = strOf (Array.getD zK (nat_lit 3) undef)) ∧ strOf (Array.getD zK (nat_lit 4) undef) = strOf (Array.getD zK (nat_lit 4) undef)) ∧ strOf (Array.getD zK (nat_lit 5) undef) = strOf (Array.getD zK (nat_lit
 5) undef)) ∧ strOf (Array.getD zK (nat_lit 6) undef) = strOf (Array.getD zK (nat_lit 6) undef)) ∧ strOf (Array.getD zK (nat_lit 7) undef) = strOf (Array.getD zK (nat_lit 7) undef)) ∧ strOf (Array.getD zK (nat_lit 8) undef) = strOf (Array.getD zK (nat_lit 8) undef)) ∧ strOf (Array.getD zK (nat_lit 9) undef) = strOf (Array.getD zK (nat_lit 9) undef)) ∧ strOf (Array.getD zK (nat_lit 10) undef) = strOf (Array.getD zK (nat_lit 10) undef)) ∧ strOf (Array.getD zK (nat_lit 11) undef) = strOf (Array.getD zK (nat_lit 11) undef)) ∧ strOf
 (Array.getD zK (nat_lit 12) undef) = strOf (Array.getD zK (nat_lit 12) undef)) ∧ strOf (Array.getD zK (nat_lit 13) undef) = strOf (Array.getD zK (nat_lit 13) undef)) ∧ strOf (Array.getD zK (nat_lit 14) undef) = strOf (Array.getD zK (nat_lit 14) undef)) ∧ strOf (Array.getD zK (nat_lit 15) undef) = strOf (Array.getD zK (nat_lit 15) undef)) ∧ strOf (Array.getD zK (nat_lit 16) undef) = strOf (Array.getD zK (nat_lit 16) undef)) ∧ strOf (Array.getD zK (nat_lit 17) undef) = strOf (Array.getD zK (nat_lit 17) undef)) ∧ strOf (Array.getD zK
 (nat_lit 18) undef) = strOf (Array.getD zK (nat_lit 18) undef)) ∧ strOf (Array.getD zK (nat_lit 19) undef) = strOf (Array.getD zK (nat_lit 19) undef)) ∧ strOf (Array.getD zK (nat_lit 20) undef) = strOf (Array.getD zK (nat_lit 20) undef)) ∧ strOf (Array.getD zK (nat_lit 21) undef) = strOf (Array.getD zK (nat_lit 21) undef)) ∧ strOf (Array.getD zK (nat_lit 22) undef) = strOf (Array.getD zK (nat_lit 22) undef)) ∧ strOf (Array.getD zK (nat_lit 23) undef) = strOf (Array.getD zK (nat_lit 23) undef)) ∧ strOf (Array.getD zK (nat_lit 24) undef)
 = strOf (Array.getD zK (nat_lit 24) undef)); let q14 := (iZ < d ∧ d ≤ (10000000000000000 : Int)); let q15 := (cI (Prod.fst (nrm (Int.toNat (n * d))))); let q16 := (cI (Prod.snd (nrm (Int.toNat (n * d))))); zB [aI n, aI d] → bF (dK (n * d)) ((∃ (z : Nat), (z ≤ 25 ∧ (kI ∧ d = d) ∧ q1 ∧ (kI ∧ iO = (cI (Prod.fst (RJ (Int.toNat (n * d)) z)))) ∧ (kI ∧ n * d = (cI (Prod.snd (RJ (Int.toNat (n * d)) z)))) ∧ kI ∧ iZ = (cI z)) ∧ True) ∧ ∀
 (z : Nat), let q2 := (strOf (Array.getD zK (Int.toNat (cI z)) undef)); let q3 := (Int.toNat (AV.int (aI (zX q2)))); let q4 := (Int.toNat (AV.int (aI (cI z))) + 1); let q5 := (kI ∧ zX q2 = zX q2); let q6 := (kI ∧ (cI z) = (cI z)); let q7 := (cI (Prod.fst (RJ (Int.toNat (n * d)) z))); let q8 := (cI (Prod.snd (RJ (Int.toNat (n * d)) z))); let q10 := (zX q2 * zX q2); let q9 := (dK q10); let q11 := (DB.db (zX q2 * zX q2 ≠ iZ)); let q12 := (↑(Yx (Int.toNat q8)) :
 Int); let q13 := (q7 * q12); z ≤ 25 → zZ (zM (cI z) (25 : Int)) (bF (DB.db (iZ ≤ (cI z) ∧ (cI z) < (↑25 : Int))) (bF (Zy q2) (lN q2 ≤ 18 ∧ (∃ (z_1 : Nat × Nat), ((0 < Prod.fst z_1 ∧ 0 < Prod.snd z_1 ∧ Prod.fst z_1 * Prod.fst z_1 * Prod.snd z_1 = Int.toNat (n * d) ∧ strip q3 z_1 = RJ (Int.toNat (n * d)) q4) ∧ (kI ∧ d = d) ∧ q5 ∧ q1 ∧ q6 ∧ (kI ∧ q7 = (cI (Prod.fst z_1))) ∧ kI ∧ q8 = (cI (Prod.snd z_1))) ∧ True) ∧ ∀ (z_1 : Nat × Nat), 0 < Prod.fst z_1 ∧ 0 < Prod.snd z_1 ∧ Prod.fst z_1 * Prod.fst z_1
 * Prod.snd z_1 = Int.toNat (n * d) ∧ strip q3 z_1 = RJ (Int.toNat (n * d)) q4 → bF q9 (bF q11 (zZ (Int.tmod (cI (Prod.snd z_1)) q10 == iZ) (bF (dK ((cI (Prod.fst z_1)) * zX q2)) (bF q9 (bF q11 (bF (dK (Int.tdiv (cI (Prod.snd z_1)) q10)) (∃ (z' : Nat × Nat), (((0 < Prod.fst z' ∧ 0 < Prod.snd z' ∧ Prod.fst z' * Prod.fst z' * Prod.snd z' = Int.toNat (n * d) ∧ strip q3 z' = RJ (Int.toNat (n * d)) q4) ∧ Prod.snd z' < Prod.snd z_1) ∧ (kI ∧ d = d) ∧ q5 ∧ q1 ∧ q6 ∧ (kI ∧ (↑(Prod.fst z_1) :
 Int) * zX q2 = (cI (Prod.fst z'))) ∧ kI ∧ Int.tdiv (cI (Prod.snd z_1)) q10 = (cI (Prod.snd z'))) ∧ True))))) (bF (dK ((cI z) + iO)) (∃ (z' : Nat), ((z' ≤ 25 ∧ 25 - z' < 25 - z) ∧ (kI ∧ d = d) ∧ q1 ∧ (kI ∧ (cI (Prod.fst z_1)) = (cI (Prod.fst (RJ (Int.toNat (n * d)) z')))) ∧ (kI ∧ (cI (Prod.snd z_1)) = (cI (Prod.snd (RJ (Int.toNat (n * d)) z')))) ∧ kI ∧ (cI z) + iO = (cI z')) ∧ True)))))))
 ((iZ ≤ q8 ∧ q8 ≤ (1000000000000000000 : Int)) ∧ bF (dK (q12 * q12)) (zZ (q12 * q12 == q8) (bF (dK q13) (((-10000000000000000 : Int) ≤ q7 * q12 ∧ q7 * q12 ≤ (10000000000000000 : Int)) ∧ q14 ∧ (iN ≤ iO ∧ iO ≤ iX) ∧ j2 ∧ (True ∧ ZI q13 (Int.toNat d) = ZI q15 (Int.toNat d)) ∧ Lib.itoa iO = Lib.itoa q16)) (((-10000000000000000 : Int) ≤ q7 ∧ q7 ≤ (10000000000000000 : Int)) ∧ q14 ∧ (iN ≤ q8 ∧ q8 ≤
 iX) ∧ j2 ∧ (True ∧ ZI q7 (Int.toNat d) = ZI q15 (Int.toNat d)) ∧ Lib.itoa q8 = Lib.itoa q16)))) := by
 delta bF dK cI kI j2 lN iZ iO iX iN aI
 dsimp only
 intro hb
 simp only [sS, dS]
 obtain ⟨N, rfl⟩ : ∃ N : Nat, n = N := ⟨n.toNat, by omega⟩
 obtain ⟨D, rfl⟩ : ∃ D : Nat, d = D := ⟨d.toNat, by omega⟩
 rw [← Int.natCast_mul] at *
 rw [Int.toNat_natCast, Int.toNat_natCast]
 have hm0 : 0 < N * D := Nat.mul_pos (by omega) (by omega)
 generalize N * D = m at *
 have hS : ∀ z, Hb (1, m) (RJ m z) := fun z => (wB (YW.take z) (1, m) (fun p hp => oC p (List.mem_of_mem_take hp)) Nat.one_pos hm0).1
 have hV : ∀ c l : Nat, 0 < c → 0 < l → c * c * l = m → c ≤ 1000000000 ∧ l ≤ m := fun c l h1 h2 h3 => by
  have h4 : c * c * 1 ≤ c * c * l := Nat.mul_le_mul_left _ h2
  have h5 : 1 * l ≤ c * c * l := Nat.mul_le_mul_right _ (Nat.mul_pos h1 h1)
  exact ⟨Nat.le_of_lt (X7 (a := c) (b := 1000000000) (by omega)), by omega⟩
 refine ⟨by simp only [ZB]; omega, ⟨0, by omega, rfl, rfl, rfl⟩, fun z hz => ⟨fun hlt => ⟨⟨by omega, hlt⟩, ?_⟩, fun hge => ?_⟩⟩
 ·obtain ⟨p1, p2, p3⟩ := KZ z (List.mem_range.2 (by omega))
  obtain ⟨t1, t2, t3⟩ := O2 z (List.mem_range.2 (by omega))
  rw [p1, X6, p2, Int.toNat_natCast]
  obtain ⟨v, ⟨q1, q2⟩, _⟩ := hS z
  have hst : strip (YW.getD z 0) (RJ m z) = RJ m (z + 1) := by
   show strip _ (Ar.y8 _ _) = Ar.y8 _ _
   rw [t1, vL]
  generalize YW.getD z 0 = p at *
  refine ⟨p3, ⟨RJ m z, ⟨q1, q2, by simpa using v, hst⟩, rfl, rfl⟩, fun y ⟨y1, y2, y3, y4⟩ => ?_⟩
  obtain ⟨c, l⟩ := y
  simp only at *
  obtain ⟨b1, b2⟩ := hV c l y1 y2 y3
  have hpp : p * p ≤ 98 * 98 := Nat.mul_le_mul (by omega) (by omega)
  have hpp2 : 2 * 2 ≤ p * p := Nat.mul_le_mul t2 t2
  have e1 : (l : Int).tmod ((p * p : Nat) : Int) = ((l % (p * p) : Nat) : Int) := by rw [Int.tmod_eq_emod_of_nonneg (by omega)]; omega
  have e2 : (l : Int).tdiv ((p * p : Nat) : Int) = ((l / (p * p) : Nat) : Int) := by rw [Int.tdiv_eq_ediv_of_nonneg (by omega), Int.natCast_ediv]
  rw [← Int.natCast_mul, e1, e2]
  have hcp : c * p ≤ 1000000000 * 98 := Nat.mul_le_mul b1 (by omega)
  have hdl : l / (p * p) ≤ l := Nat.div_le_self _ _
  refine ⟨by simp only [ZB]; omega, by omega, fun h => ?_, fun h => ⟨by simp only [ZB]; omega, z + 1, ⟨by omega, by omega⟩, ?_⟩⟩
  ·have h : l % (p * p) = 0 := by omega
   have hd := Nat.dvd_of_mod_eq_zero h
   have h2 : 0 < l / (p * p) := Nat.div_pos (Nat.le_of_dvd y2 hd) (by omega)
   refine ⟨by rw [← Int.natCast_mul]; simp only [ZB]; omega, by simp only [ZB]; omega, by omega, by simp only [ZB]; omega, (c * p, l / (p * p)), ⟨⟨Nat.mul_pos y1 (by omega), h2, ?_, by rw [← qF t2 y2 h]; exact y4⟩, vz t2 y2⟩, by rw [Int.natCast_mul], rfl⟩
   obtain ⟨k, rfl⟩ := hd
   simp only
   rw [Nat.mul_div_cancel_left _ (by omega), ← y3]
   grind
  ·rw [PY (by omega)] at y4
   rw [← y4]
   exact ⟨rfl, rfl, by omega⟩
 ·have hz25 : z = 25 := by omega
  subst hz25
  have hN : nrm m = OW (RJ m 25) := rfl
  obtain ⟨v, ⟨q1, q2⟩, _⟩ := hS 25
  rw [hN]
  generalize RJ m 25 = y at *
  obtain ⟨c, l⟩ := y
  simp only [Nat.one_mul] at *
  obtain ⟨b1, b2⟩ := hV c l q1 q2 v
  obtain ⟨s1, s2⟩ := xG (n := l) (by omega)
  have hr : Yx l ≤ 1000000000 := Nat.le_of_lt (X7 (a := Yx l) (b := 1000000000) (by omega))
  unfold OW
  simp only
  rw [← Int.natCast_mul, ← Int.natCast_mul]
  have hcr : c * Yx l * (c * Yx l) ≤ m := by
   have e : c * Yx l * (c * Yx l) = c * c * (Yx l * Yx l) := by grind
   rw [e, ← v]
   exact Nat.mul_le_mul_left _ s1
  have hcr2 : c * Yx l < 1000000000 := X7 (by omega)
  refine ⟨⟨by omega, by omega⟩, by simp only [ZB]; omega, fun h => ?_, fun h => ?_⟩
  ·rw [if_pos (by omega)]
   exact ⟨by simp only [ZB]; omega, ⟨by omega, by omega⟩, hd, ⟨by omega, by omega⟩, rfl, rfl, rfl⟩
  ·rw [if_neg (by omega)]
   exact ⟨⟨by omega, by omega⟩, hd, ⟨by omega, by omega⟩, rfl, rfl, rfl⟩
end Go.Te
