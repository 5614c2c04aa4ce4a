/- rational: what is told of numbers as rational numbers. -/
import Derived.Test.YthbpnknhfokadaaGreatDoorThRc
import Derived.Test.YthbpnknhfokadaaGreatDoorArW
import Derived.Lib.BitFns
set_option linter.unusedSimpArgs false
set_option linter.unusedVariables false
namespace Go.Te
open Go Go.Sx Go.Proofs Go.Ar
set_option maxRecDepth 100000
set_option maxHeartbeats 4000000
theorem kB {k : Nat} {a : zj} (h : YZ k a) (hk : 0 < k) (hk2 : k ≤ 300) : a.length ≤ 700 := by
 obtain ⟨h1, h2, h3⟩ := h.parts
 have a1 : XZ (zK a) ≤ k := xf hk h1
 have a2 : Lib.nDigits (zn a) ≤ k := (Zw hk).2 h2
 rw [← wV (Zq.1 h.1).1]
 unfold Yd
 rw [List.length_append, Xw]
 have b2 : (bif Nat.beq (zn a) 1 then [] else 47 :: Lib.decDigits (zn a)).length ≤ 301 := by
  cases Nat.beq (zn a) 1 with
  | true => simp
  | false => rw [cond_false, List.length_cons, Lib.decDigits_length]; omega
 split <;> omega
theorem YR {k : Nat} {a : zj} (h : YZ k a) (hk : 0 < k) (hk2 : k ≤ 300) : a.length ≤ 9223372036854775807 := Nat.le_trans (kB h hk hk2) (by decide)
theorem L5 {n d : Int} (hd : d ≠ 0) : xx n d = zW ((n : Rat) / (d : Rat)) := by
 unfold xx
 have e1 : ((d.natAbs : Nat) : Rat) = ((d.natAbs : Int) : Rat) := (Rat.intCast_natCast _).symm
 cases h : zG d 0 with
 | true =>
  have h := (zp _ _).1 h
  rw [cond_true, Yg _ (by omega), Rat.mkRat_eq_div]
  congr 1
  rw [show (-d).toNat = d.natAbs by omega, e1, show ((d.natAbs : Nat) : Int) = -d by omega, Rat.intCast_neg, Rat.intCast_neg]
  grind
 | false =>
  have h : ¬ d < 0 := fun e => by rw [(zp _ _).2 e] at h; cases h
  rw [cond_false, Yg _ (by omega), Rat.mkRat_eq_div]
  congr 1
  rw [show d.toNat = d.natAbs by omega, e1, show ((d.natAbs : Nat) : Int) = d by omega]
theorem xh {k : Nat} {n : Int} (h : n.natAbs < 10 ^ k) (h0 : 0 < k) (hk : k ≤ 300) : Zl n = 0 := (ZO h0 hk h).2
theorem uM {j k : Nat} {a b : zj} (ha : YZ j a) (hb : YZ k b) : (zK a * (zn b : Int)).natAbs < 10 ^ (j + k) ∧ (zK b * (zn a : Int)).natAbs < 10 ^ (j + k) ∧ (zK a * zK b).natAbs < 10 ^ (j + k) ∧ ((zn a : Int) * (zn b : Int)).natAbs < 10 ^ (j + k) := by
 obtain ⟨a1, a2, a3⟩ := ha.parts
 obtain ⟨b1, b2, b3⟩ := hb.parts
 refine ⟨?_, ?_, ?_, ?_⟩
 ·rw [Int.natAbs_mul, Int.natAbs_natCast]; exact Yv a1 b2
 ·rw [Int.natAbs_mul, Int.natAbs_natCast, Nat.mul_comm]; exact Yv a2 b1
 ·rw [Int.natAbs_mul]; exact Yv a1 b1
 ·rw [← Int.natCast_mul, Int.natAbs_natCast]; exact Yv a2 b2
theorem ji {u v w k : Nat} (h1 : u < 10 ^ k) (h2 : v < 10 ^ k) (h : w ≤ u + v) : w < 10 ^ (k + 1) := by
 rw [Nat.pow_succ]; omega
theorem H2 {f : Int → Int → Int} (hf : ∀ u v, (f u v).natAbs ≤ u.natAbs + v.natAbs) {a b : zj} (ha : YZ 140 a) (hb : YZ 140 b) : tc f a b = 0 ∧ Pd f a b = zW (mkRat (f (zK a * (zn b : Int)) (zK b * (zn a : Int))) (zn a * zn b)) := by
 obtain ⟨m1, m2, m3, m4⟩ := uM ha hb
 have m5 := ji m1 m2 (hf (zK a * (zn b : Int)) (zK b * (zn a : Int)))
 have e : tc f a b = 0 := by
  unfold tc VY jU
  rw [ha.1, hb.1, xh m1 (by decide) (by decide), xh m2 (by decide) (by decide), xh m5 (by omega) (by omega), xh m4 (by decide) (by decide)]
  rfl
 refine ⟨e, ?_⟩
 unfold Pd
 rw [e]
 show ZL _ _ = _
 rw [Yg _ (Nat.mul_pos ha.parts.2.2 hb.parts.2.2)]; rfl
def Ti (c : zj → zj → Prop) (r : zj → zj → AV) : List AV → Option (List zN × AV)
 | [.str a, .str b] => some ([.p (c a b)], r a b)
 | _ => none
theorem PN {P : Program} {G : List (Nat × Obj)} {f : FuncId} {c : zj → zj → Prop} {r : zj → zj → AV} (h : ∀ a b, c a b → zu P G f [.str a, .str b] (r a b)) : zP P G f (Ti c r) := by
 intro xs ps r' e hp
 unfold Ti at e
 split at e
 ·cases e
  exact h _ _ (hp _ List.mem_cons_self)
 ·cases e
structure YM (k : Nat) (a b : zj) : Prop where
 fa : YZ k a
 fb : YZ k b
abbrev gn (f : Rat → Rat → Rat) (a b : zj) : AV := .tup 2 (zw [.str (zW (f (zo a) (zo b))), .i 0])
def sj := Ti (YM 140) (gn (· + ·))
theorem Qh {G : List (Nat × Obj)} (hG : zO G) : zP Tryz.prog G 30 sj := PN fun a b h => by
 have := ia hG a b (YR h.1 (by decide) (by decide)) (YR h.2 (by decide) (by decide))
 obtain ⟨e1, e2⟩ := H2 (f := fun x y => x + y) (fun u v => by omega) h.1 h.2
 rw [e1, e2, LC h.1.parts.2.2 h.2.parts.2.2] at this
 exact this
def vS := Ti (YM 140) (gn (· * ·))
theorem Ve {G : List (Nat × Obj)} (hG : zO G) : zP Tryz.prog G 40 vS := PN fun a b h => by
 have := JW hG a b (YR h.1 (by decide) (by decide)) (YR h.2 (by decide) (by decide))
 obtain ⟨m1, m2, m3, m4⟩ := uM h.1 h.2
 have e1 : TV a b = 0 := by
  unfold TV
  rw [h.1.1, h.2.1, xh m3 (by decide) (by decide), xh m4 (by decide) (by decide)]
  rfl
 have e2 : PY a b = zW (zo a * zo b) := by
  unfold PY
  rw [e1]
  show ZL _ _ = _
  rw [Yg _ (Nat.mul_pos h.1.parts.2.2 h.2.parts.2.2), Ky]
 rw [e1, e2] at this
 exact this
def Xj (p q : Rat) : Int := if p < q then -1 else if p = q then 0 else 1
theorem Mo {a b : zj} (ha : zH a = 0) (hb : zH b = 0) : xM (zK a * (zn b : Int)) (zK b * (zn a : Int)) = Xj (zo a) (zo b) := by
 have h1 : zo a < zo b ↔ zK a * (zn b : Int) < zK b * (zn a : Int) := by rw [Rat.lt_iff, (Z3 ha).1, (Z3 ha).2, (Z3 hb).1, (Z3 hb).2]
 have h2 : zo a = zo b ↔ zK a * (zn b : Int) = zK b * (zn a : Int) := by rw [Rat.eq_iff_mul_eq_mul, (Z3 ha).1, (Z3 ha).2, (Z3 hb).1, (Z3 hb).2]
 unfold xM Xj
 generalize zK a * (zn b : Int) = x at *
 generalize zK b * (zn a : Int) = y at *
 by_cases h : x < y
 ·rw [(zp _ _).2 h, if_pos (h1.2 h)]; rfl
 ·rw [show zG x y = false from Bool.eq_false_iff.2 fun e => h ((zp _ _).1 e), if_neg fun e => h (h1.1 e)]
  by_cases h3 : x = y
  ·rw [if_pos (h2.2 h3), h3, beq_self_eq_true]; rfl
  ·rw [if_neg fun e => h3 (h2.1 e), beq_eq_false_iff_ne.2 h3]; rfl
def rn := Ti (YM 140) fun a b => .tup 2 (zw [.i (Xj (zo a) (zo b)), .i 0])
theorem Qk {G : List (Nat × Obj)} (hG : zO G) : zP Tryz.prog G 29 rn := PN fun a b h => by
 have := J3 hG a b (YR h.1 (by decide) (by decide)) (YR h.2 (by decide) (by decide))
 obtain ⟨m1, m2, m3, m4⟩ := uM h.1 h.2
 have e1 : VY a b = 0 := by
  unfold VY
  rw [h.1.1, h.2.1, xh m1 (by decide) (by decide), xh m2 (by decide) (by decide)]
  rfl
 have e2 : qp a b = Xj (zo a) (zo b) := by
  unfold qp
  rw [e1]
  exact Mo h.1.1 h.2.1
 rw [e1, e2] at this
 exact this
def PK (c : zj → Prop) (r : zj → AV) : List AV → Option (List zN × AV)
 | [.str a] => some ([.p (c a)], r a)
 | _ => none
theorem jY {P : Program} {G : List (Nat × Obj)} {f : FuncId} {c : zj → Prop} {r : zj → AV} (h : ∀ a, c a → zu P G f [.str a] (r a)) : zP P G f (PK c r) := by
 intro xs ps r' e hp
 unfold PK at e
 split at e
 ·cases e
  exact h _ (hp _ List.mem_cons_self)
 ·cases e
def ua := PK (YZ 300) fun _ => .i 0
theorem SC {G : List (Nat × Obj)} (hG : zO G) : zP Tryz.prog G 43 ua := jY fun a h => by
 have := jD hG a (YR h (by decide) (by decide))
 rw [h.1] at this
 exact this
theorem Ox {a : zj} (h : zH a = 0) : zm a = Lib.itoa (zo a).num ∧ yx a = Lib.itoa ((zo a).den : Int) := by
 obtain ⟨v1, v2, v3, v4⟩ := lQ h
 rw [(Z3 h).1, (Z3 h).2, ← v3, ← v4, YG (yt.1 v1).1, YG (yt.1 v2).1]
 exact ⟨rfl, rfl⟩
theorem mr (G : List (Nat × Obj)) (a : List UInt8) (hl : a.length ≤ 9223372036854775807) :
 Zy [AV.str a] → lN a ≤ nX ∧ 3 = lN [AV.junk, AV.junk, AV.junk] ∧ ((True ∧ (bif zH a == iZ then zm a else []) = bif zH a == iZ then zm a else []) ∧ (bif zH a == iZ then yx a else []) = bif zH a == iZ then yx a else []) ∧ kI ∧ zH a = zH a := by
 delta nX kI lN iZ
 intro hb
 simp only [sS, dS]
 exact ⟨hl, rfl⟩
theorem Kt {G : List (Nat × Obj)} (hG : zO G) (a : List UInt8) (hl : a.length ≤ 9223372036854775807) : zu Tryz.prog G 85 [.str a] (.tup 3 (zw [.str (bif zH a == 0 then zm a else []), .str (bif zH a == 0 then yx a else []), .i (zH a)])) :=
 zv (T := (Xh G).plus 57 wn) (an := .auto) mixed (zz.plus zq (vj hG)) (Eq.mp (by kernel_rfl) (mr G a hl))
def SR := PK (YZ 300) fun a => .tup 3 (zw [.str (Lib.itoa (zo a).num), .str (Lib.itoa ((zo a).den : Int)), .i 0])
theorem pX {G : List (Nat × Obj)} (hG : zO G) : zP Tryz.prog G 85 SR := jY fun a h => by
 have := Kt hG a (YR h (by decide) (by decide))
 obtain ⟨e1, e2⟩ := Ox h.1
 rw [h.1] at this
 simp only [beq_self_eq_true, cond_true] at this
 rw [e1, e2] at this
 exact this
def NM : List AV → Option (List zN × AV)
 | [.agg 2 p_x, .agg 2 p_y] => some ([.b (Y3 (p_x 0) && Y3 (p_x 1)), .b (Y3 (p_y 0) && Y3 (p_y 1)), .p (tD (⟨AV.int (p_x 0), AV.int (p_x 1)⟩ : Nt)), .p (tD (⟨AV.int (p_y 0), AV.int (p_y 1)⟩ : Nt))], xz (⟨(⟨AV.int (p_x 0), AV.int (p_x 1)⟩ : Nt).n * (⟨AV.int (p_y 0), AV.int (p_y 1)⟩ : Nt).d, (⟨AV.int (p_x 0), AV.int (p_x 1)⟩ : Nt).d * (⟨AV.int (p_y 0), AV.int (p_y 1)⟩ : Nt).n⟩ : Nt))
 | _ => none
theorem ja (x : Nt) (y : Nt) (h1 : tD x) (h2 : tD y) :
 Zy [AV.agg 2 (zR.enc x), AV.agg 2 (zR.enc y)] → bF (dK (Nt.n x * Nt.d y)) (bF (dK (Nt.d x * Nt.n y)) (2 = 2 ∧ (kI ∧ Nt.n x * Nt.d y = Nt.n (Nt.mk (Nt.n x * Nt.d y) (Nt.d x * Nt.n y))) ∧ kI ∧ Nt.d x * Nt.n y = Nt.d (Nt.mk (Nt.n x * Nt.d y) (Nt.d x * Nt.n y)))) := by
 delta bF dK kI
 intro hb
 simp only [sS, dS]
 unfold tD at h1 h2
 have m1 := Yq (a := x.n) (b := y.d) h1.1 ⟨by omega, h2.2.2⟩
 have m3 := Yq (a := x.d) (b := y.n) ⟨by omega, h1.2.2⟩ h2.1
 exact ⟨⟨by omega, by omega⟩, ⟨by omega, by omega⟩⟩
theorem HP (x : Nt) (y : Nt) (h1 : tD x) (h2 : tD y) : zu Tryz.prog [] 104 [xz x, xz y] (xz (⟨x.n * y.d, x.d * y.n⟩ : Nt)) :=
 zv (T := T0) (an := .auto) mixed zq (Eq.mp (by kernel_rfl) (ja x y h1 h2))
theorem HB : zP Tryz.prog [] 104 NM := by
 intro xs ps r h hp
 unfold NM at h
 split at h
 ·skip
  rename_i p_x p_y
  cases h
  obtain ⟨q0, q1, q2, q3, -⟩ := Zo hp
  exact weaken (ys := [xz (⟨AV.int (p_x 0), AV.int (p_x 1)⟩ : Nt), xz (⟨AV.int (p_y 0), AV.int (p_y 1)⟩ : Nt)]) ⟨Zs (x := .agg 2 p_x) (α := Nt) q0, Zs (x := .agg 2 p_y) (α := Nt) q1, trivial⟩ (HP (⟨AV.int (p_x 0), AV.int (p_x 1)⟩ : Nt) (⟨AV.int (p_y 0), AV.int (p_y 1)⟩ : Nt) q2 q3)
 ·cases h
noncomputable def GQ (G : List (Nat × Obj)) : Tb := (((Xh G).plus 78 W9).plus 79 Vo).body Tryz.prog [(58, .auto)]
theorem oP {G : List (Nat × Obj)} (hG : zO G) : zz Tryz.prog (GQ G) := zz.body mixed (zz.plus (zz.plus zq (Ua hG)) (S8 hG)) _
def NE : List AV → Option (List zN × AV)
 | [.agg 2 p_x, .agg 2 p_y] => some ([.b (Zk (p_x 0) && Zk (p_x 1)), .b (Zk (p_y 0) && Zk (p_y 1)), .p (Tx (⟨AV.bytes (p_x 0), AV.bytes (p_x 1)⟩ : Pt)), .p (Tx (⟨AV.bytes (p_y 0), AV.bytes (p_y 1)⟩ : Pt)), .p (zY (⟨AV.bytes (p_y 0), AV.bytes (p_y 1)⟩ : Pt).n ≠ 0), .p (Zl (zY (⟨AV.bytes (p_x 0), AV.bytes (p_x 1)⟩ : Pt).n * zY (⟨AV.bytes (p_y 0), AV.bytes (p_y 1)⟩ : Pt).d) = 0), .p (Zl (zY (⟨AV.bytes (p_y 0), AV.bytes (p_y 1)⟩ : Pt).n * zY (⟨AV.bytes (p_x 0), AV.bytes (p_x 1)⟩ : Pt).d) = 0)], .tup 2 (zw [.str (xx (zY (⟨AV.bytes (p_x 0), AV.bytes (p_x 1)⟩ : Pt).n * zY (⟨AV.bytes (p_y 0), AV.bytes (p_y 1)⟩ : Pt).d) (zY (⟨AV.bytes (p_y 0), AV.bytes (p_y 1)⟩ : Pt).n * zY (⟨AV.bytes (p_x 0), AV.bytes (p_x 1)⟩ : Pt).d)), .i 0]))
 | _ => none
theorem iz (G : List (Nat × Obj)) (x : Pt) (y : Pt) (h1 : Tx x) (h2 : Tx y) (h3 : zY y.n ≠ 0) (h4 : Zl (zY x.n * zY y.d) = 0) (h5 : Zl (zY y.n * zY x.d) = 0) :
 let q1 := (True ∧ bA #[] = xx (zY (Pt.n x) * zY (Pt.d y)) (zY (Pt.n y) * zY (Pt.d x))); let q2 := (Yc (fun (x1 x2 : Int) => x1 * x2) (Pt.n x) (Pt.d y) != iZ); let q3 := (bA #[]); let q4 := (zY q3); let q5 := (y6 (fun (x1 x2 : Int) => x1 * x2) (Pt.n x) (Pt.d y)); let q6 := (y6 (fun (x1 x2 : Int) => x1 * x2) (Pt.n y) (Pt.d x)); Zy [AV.agg 2 (zR.enc x), AV.agg 2 (zR.enc y)] → zZ (Pt.n y == bA #[(48 : UInt8)]) (j2
 ∧ q1 ∧ kI ∧ (12 : Int) = iZ) (lN (Pt.n x) ≤ nM ∧ lN (Pt.d y) ≤ nM ∧ zZ q2 (zZ q2 (j2 ∧ q1 ∧ kI ∧ Yc (fun (x1 x2 : Int) => x1 * x2) (Pt.n x) (Pt.d y) = iZ) (ZQ q3 = iZ ∧ ZQ q3 = iZ ∧ zY q3 ≠ iZ ∧ j2 ∧ (True ∧ xx q4 q4 = xx (zY (Pt.n x) * zY (Pt.d y)) (zY (Pt.n y) * zY (Pt.d x))) ∧ kI ∧ iZ = iZ)) (lN (Pt.n y) ≤ nM ∧ lN (Pt.d x) ≤ nM ∧ zZ (Yc
 (fun (x1 x2 : Int) => x1 * x2) (Pt.n y) (Pt.d x) != iZ) (j2 ∧ q1 ∧ kI ∧ Yc (fun (x1 x2 : Int) => x1 * x2) (Pt.n y) (Pt.d x) = iZ) (ZQ q5 = iZ ∧ ZQ q6 = iZ ∧ zY q6 ≠ iZ ∧ j2 ∧ (True ∧ xx (zY q5) (zY q6) = xx (zY (Pt.n x) * zY (Pt.d y)) (zY (Pt.n y) * zY (Pt.d x))) ∧ kI ∧ iZ = iZ))) := by
 delta bA nM kI j2 lN iZ
 dsimp only
 intro hb
 simp only [sS, dS]
 obtain ⟨a1, a2, a3⟩ := h1
 obtain ⟨b1, b2, b3⟩ := h2
 have l1 := (yV a1).2.1
 have l2 := (yV a2).2.1
 have l3 := (yV b1).2.1
 have l4 := (yV b2).2.1
 obtain ⟨p1, p2⟩ := wz (f := fun x1 x2 => x1 * x2) a1 b2
 obtain ⟨p3, p4⟩ := wz (f := fun x1 x2 => x1 * x2) b1 a2
 obtain ⟨r1, r2, r3⟩ := WV h4
 obtain ⟨r4, r5, r6⟩ := WV h5
 rw [p1, p2, p3, p4, h4, h5, r2, r5]
 refine zX.2 ⟨fun c => absurd (by rw [eq_of_beq c]; decide) h3, fun _ => ⟨by omega, by omega, fun h => absurd rfl h, fun _ => ⟨by omega, by omega, fun h => absurd rfl h, fun _ => ⟨r1, r4, Int.mul_ne_zero h3 a3, rfl, rfl⟩⟩⟩⟩
theorem Ie {G : List (Nat × Obj)} (hG : zO G) (x : Pt) (y : Pt) (h1 : Tx x) (h2 : Tx y) (h3 : zY y.n ≠ 0) (h4 : Zl (zY x.n * zY y.d) = 0) (h5 : Zl (zY y.n * zY x.d) = 0) : zu Tryz.prog G 105 [xz x, xz y] (.tup 2 (zw [.str (xx (zY x.n * zY y.d) (zY y.n * zY x.d)), .i 0])) :=
 zv (T := GQ G) (an := .auto) mixed (oP hG) (Eq.mp (by kernel_rfl) (iz G x y h1 h2 h3 h4 h5))
theorem gZ {G : List (Nat × Obj)} (hG : zO G) : zP Tryz.prog G 105 NE := by
 intro xs ps r h hp
 unfold NE at h
 split at h
 ·skip
  rename_i p_x p_y
  cases h
  obtain ⟨q0, q1, q2, q3, q4, q5, q6, -⟩ := Zo hp
  exact weaken (ys := [xz (⟨AV.bytes (p_x 0), AV.bytes (p_x 1)⟩ : Pt), xz (⟨AV.bytes (p_y 0), AV.bytes (p_y 1)⟩ : Pt)]) ⟨Zs (x := .agg 2 p_x) (α := Pt) q0, Zs (x := .agg 2 p_y) (α := Pt) q1, trivial⟩ (Ie hG (⟨AV.bytes (p_x 0), AV.bytes (p_x 1)⟩ : Pt) (⟨AV.bytes (p_y 0), AV.bytes (p_y 1)⟩ : Pt) q2 q3 q4 q5 q6)
 ·cases h
noncomputable def Gr (G : List (Nat × Obj)) : Tb := (((((Xh G).plus 57 wn).plus 55 Vj).plus 101 SD).plus 104 NM).plus 105 NE |>.body Tryz.prog [(60, .auto), (62, .auto)]
theorem oV {G : List (Nat × Obj)} (hG : zO G) : zz Tryz.prog (Gr G) :=
 zz.body mixed (zz.plus (zz.plus (zz.plus (zz.plus (zz.plus zq (vj hG)) (zP.mono rR)) (mt hG)) (zP.mono HB)) (gZ hG)) _
theorem I9 {a b : zj} (ha : YZ 140 a) (hb : YZ 140 b) (hp : zo b ≠ 0) : zK b ≠ 0 ∧ (zn a : Int) * zK b ≠ 0 ∧ xx (zK a * (zn b : Int)) (zK b * (zn a : Int)) = zW (zo a / zo b) := by
 have h0 : zK b ≠ 0 := fun e => hp (by unfold zo; rw [e]; exact Rat.zero_mkRat _)
 have da := ha.parts.2.2
 have db := hb.parts.2.2
 refine ⟨h0, Int.mul_ne_zero (by omega) h0, ?_⟩
 rw [L5 (Int.mul_ne_zero h0 (by omega))]
 congr 1
 unfold zo
 rw [Rat.mkRat_eq_div, Rat.mkRat_eq_div, Rat.intCast_mul, Rat.intCast_mul, Rat.intCast_natCast, Rat.intCast_natCast]
 have e1 : ((zn a : Nat) : Rat) ≠ 0 := fun e => by have := Rat.natCast_eq_zero_iff.1 e; omega
 have e2 : ((zn b : Nat) : Rat) ≠ 0 := fun e => by have := Rat.natCast_eq_zero_iff.1 e; omega
 have e3 : ((zK b : Int) : Rat) ≠ 0 := fun e => h0 (Rat.intCast_eq_zero_iff.1 e)
 grind
theorem Lo (G : List (Nat × Obj)) (a : List UInt8) (b : List UInt8) (ha : YZ 140 a) (hc : YZ 140 b) (hp : zo b ≠ 0) :
 let q2 := (True ∧ bA #[] = zW (zo a / zo b)); let q6 := (Value.agg #[Value.string (ByteArray.mk #[]), Value.string (ByteArray.mk #[])]); let q5 := (fun (i : Nat) => if 0 ≤ i ∧ i < 0 + 2 then zw [AV.str (bif zH a == iZ then zm a else []), AV.str (bif zH a == iZ then yx a else [])] (i - 0) else Z4 q6 i); let q4 := (Pt.mk (AV.bytes (q5 0)) (AV.bytes (q5 1))); let q3 := (Pt.n q4); let q7 := (Pt.d q4); let q10 := (fun (i : Nat) => if 0 ≤ i ∧ i < 0 + 2 then zw [AV.str (bif zH b == iZ then zm b else []), AV.str
 (bif zH b == iZ then yx b else [])] (i - 0) else Z4 q6 i); let q9 := (Pt.mk (AV.bytes (q10 0)) (AV.bytes (q10 1))); let q8 := (Pt.n q9); let q11 := (Pt.d q9); let q12 := (zY q3 * zY q11); let q13 := (zY q8 * zY q7); let q1 := (lN a ≤ nX ∧ zZ (zH a != iZ) (j2 ∧ q2 ∧ kI ∧ zH a = iZ) (lN b ≤ nX ∧ zZ (zH b != iZ) (j2 ∧ q2 ∧ kI ∧ zH b = iZ) ((ZQ q3 = iZ ∧ ZQ q7 = iZ ∧
 zY q7 ≠ iZ) ∧ (ZQ q8 = iZ ∧ ZQ q11 = iZ ∧ zY q11 ≠ iZ) ∧ zY q8 ≠ iZ ∧ Zl q12 = iZ ∧ Zl q13 = iZ ∧ j2 ∧ (True ∧ xx q12 q13 = zW (zo a / zo b)) ∧ kI ∧ iZ = iZ))); let q16 := (Value.agg #[Value.int .i64 iZ, Value.int .i64 iZ]); let q15 := (fun (i : Nat) => if 0 ≤ i ∧ i < 0 + 2 then zw [AV.i (bif z8 a then zK a else iZ), AV.i (bif z8 a then (cI (zn a)) else iZ)] (i - 0) else Z4 q16 i); let q14 := (Nt.mk (AV.int (q15 0))
 (AV.int (q15 1))); let q18 := (fun (i : Nat) => if 0 ≤ i ∧ i < 0 + 2 then zw [AV.i (bif z8 b then zK b else iZ), AV.i (bif z8 b then (cI (zn b)) else iZ)] (i - 0) else Z4 q16 i); let q17 := (Nt.mk (AV.int (q18 0)) (AV.int (q18 1))); let q20 := (Nt.mk (Nt.n q14 * Nt.d q17) (Nt.d q14 * Nt.n q17)); let q19 := (Nt.mk (AV.int (aI (Nt.n q20))) (AV.int (aI (Nt.d q20)))); Zy [AV.str a, AV.str b] → zZ (!b == bA #[(48 : UInt8)]) (lN a ≤ nX ∧ zZ (!z8 a) q1
 (lN b ≤ nX ∧ zZ (!z8 b) q1 ((((-99999999 : Int) ≤ Nt.n q14 ∧ Nt.n q14 ≤ (99999999 : Int)) ∧ iZ < Nt.d q14 ∧ Nt.d q14 ≤ (99999999 : Int)) ∧ (((-99999999 : Int) ≤ Nt.n q17 ∧ Nt.n q17 ≤ (99999999 : Int)) ∧ iZ < Nt.d q17 ∧ Nt.d q17 ≤ (99999999 : Int)) ∧ Nt.d q19 ≠ iZ ∧ ((-1000000000000000000 : Int) ≤ Nt.d q19 ∧ Nt.d q19 ≤ (1000000000000000000 : Int)) ∧ ((-1000000000000000000 : Int) ≤ Nt.n q19 ∧ Nt.n q19 ≤ (1000000000000000000 : Int)) ∧ j2 ∧ (True ∧ xx (Nt.n q19) (Nt.d q19) = zW (zo a / zo b)) ∧ IntKind.i64 =
 .i64 ∧ iZ = iZ))) q1 := by
 delta bA nX cI kI j2 lN iZ aI
 dsimp only
 intro hb
 simp only [sS, dS]
 obtain ⟨n0, n1, n2⟩ := I9 ha hc hp
 have h0 : (b == [48]) = false := beq_eq_false_iff_ne.2 fun e => by subst e; exact n0 (by decide)
 have la := YR ha (by decide) (by decide)
 have lb := YR hc (by decide) (by decide)
 obtain ⟨m1, m2, m3, m4⟩ := uM ha hc
 have p1 := VR ha.1
 have p2 := VR hc.1
 obtain ⟨_, _, v1, v2⟩ := lQ ha.1
 obtain ⟨_, _, v3, v4⟩ := lQ hc.1
 have r1 := xh m1 (by decide) (by decide)
 have r2 := xh m2 (by decide) (by decide)
 have q3 : zY (zm b) ≠ 0 := by rw [v3]; exact n0
 have q4 : Zl (zY (zm a) * zY (yx b)) = 0 := by rw [v1, v4]; exact r1
 have q5 : Zl (zY (zm b) * zY (yx a)) = 0 := by rw [v3, v2]; exact r2
 have q6 : xx (zY (zm a) * zY (yx b)) (zY (zm b) * zY (yx a)) = zW (zo a / zo b) := by rw [v1, v2, v3, v4]; exact n2
 rw [h0]
 refine zX.2 ⟨fun _ => ⟨la, zX.2 ⟨fun c => ?_, fun c => ⟨lb, zX.2 ⟨fun c2 => ?_, fun c2 => ?_⟩⟩⟩⟩, fun c => by cases c⟩
 rotate_left 2
 ·rw [Bool.not_eq_false'] at c c2
  obtain ⟨a1, a2, a3⟩ := yh c
  obtain ⟨b1, b2, b3⟩ := yh c2
  have w1 := Yq (a := zK a) (b := (zn b : Int)) ⟨by omega, by omega⟩ ⟨by omega, by omega⟩
  have w2 := Yq (a := (zn a : Int)) (b := zK b) ⟨by omega, by omega⟩ ⟨by omega, by omega⟩
  rw [c, c2]
  simp only [cond_true]
  have w3 : -1000000000000000000 ≤ (zn a : Int) * zK b ∧ (zn a : Int) * zK b ≤ 1000000000000000000 := ⟨by omega, by omega⟩
  have w4 : -1000000000000000000 ≤ zK a * (zn b : Int) ∧ zK a * (zn b : Int) ≤ 1000000000000000000 := ⟨by omega, by omega⟩
  rw [Int.mul_comm (zK b)] at n2
  exact ⟨Tp c, Tp c2, n1, w3, w4, rfl, n2⟩
 all_goals
  rw [ha.1, hc.1]
  exact ⟨la, fun h => absurd rfl h, fun _ => ⟨lb, fun h => absurd rfl h, fun _ => ⟨p1, p2, q3, q4, q5, rfl, q6⟩⟩⟩
theorem Jb {G : List (Nat × Obj)} (hG : zO G) (a : List UInt8) (b : List UInt8) (ha : YZ 140 a) (hc : YZ 140 b) (hp : zo b ≠ 0) : zu Tryz.prog G 66 [.str a, .str b] (.tup 2 (zw [.str (zW (zo a / zo b)), .i 0])) :=
 zv (T := Gr G) (an := .auto) mixed (oV hG) (Eq.mp (by kernel_rfl) (Lo G a b ha hc hp))
structure X6 (a b : zj) : Prop where
 fa : YZ 140 a
 fb : YZ 140 b
 ne : zo b ≠ 0
def SU := Ti X6 (gn (· / ·))
theorem QE {G : List (Nat × Obj)} (hG : zO G) : zP Tryz.prog G 66 SU := PN fun a b h => Jb hG a b h.1 h.2 h.3
end Go.Te

namespace Go.Te
open Go Go.Sx Go.Proofs Go.Ar Go.RowKit
set_option maxRecDepth 100000
set_option maxHeartbeats 4000000
def PH : List AV → Option (List zN × AV)
 | [.v (.int .i64 n), .v (.int .i64 d)] => some ([.p (-10000000000000000 ≤ n ∧ n ≤ 10000000000000000), .p (0 < d ∧ d ≤ 10000000000000000)], .tup 2 (zw [.str (ZL n d.toNat), .i 0]))
 | _ => none
theorem Ix (G : List (Nat × Obj)) (n : Int) (d : Int) (hn : -10000000000000000 ≤ n ∧ n ≤ 10000000000000000) (hd : 0 < d ∧ d ≤ 10000000000000000) :
 Zy [aI n, aI d] → zZ (d == iZ) (j2 ∧ (True ∧ bA #[] = ZL n (Int.toNat d)) ∧ kI ∧ (12 : Int) = iZ) (zZ (d == iO) ((iN ≤ n ∧ n ≤ iX) ∧ j2 ∧ (True ∧ Lib.itoa n = ZL n (Int.toNat d)) ∧ kI ∧ iZ = iZ) ((iN ≤ n ∧ n ≤ iX) ∧ (iN ≤ d ∧ d ≤
 iX) ∧ ZQ (Lib.itoa n) = iZ ∧ ZQ (Lib.itoa d) = iZ ∧ zY (Lib.itoa d) ≠ iZ ∧ j2 ∧ (True ∧ xx (zY (Lib.itoa n)) (zY (Lib.itoa d)) = ZL n (Int.toNat d)) ∧ kI ∧ iZ = iZ)) := by
 delta bA kI j2 iZ iO iX iN aI
 intro hb
 simp only [sS, dS]
 have key : ∀ m : Int, m.natAbs ≤ 10000000000000000 → ZQ (Lib.itoa m) = 0 := fun m hm => by
  rw [YT]
  exact xh (k := 17) (Nat.lt_of_le_of_lt hm (by decide)) (by decide) (by decide)
 have hs : xx (zY (Lib.itoa n)) (zY (Lib.itoa d)) = ZL n d.toNat := by
  rw [(zb n).2, (zb d).2]
  unfold xx
  rw [show zG d 0 = false from Bool.eq_false_iff.2 fun e => by have := (zp _ _).1 e; omega]; rfl
 rw [hs]
 exact ⟨fun h => by omega, fun _ => ⟨fun h => ⟨⟨by omega, by omega⟩, rfl, by rw [h]; exact OC.symm⟩, fun _ => ⟨⟨by omega, by omega⟩, ⟨by omega, by omega⟩, key n (by omega), key d (by omega), by rw [(zb d).2]; omega, rfl, rfl⟩⟩⟩
theorem HD {G : List (Nat × Obj)} (hG : zO G) (n : Int) (d : Int) (hn : -10000000000000000 ≤ n ∧ n ≤ 10000000000000000) (hd : 0 < d ∧ d ≤ 10000000000000000) : zu Tryz.prog G 50 [.i n, .i d] (.tup 2 (zw [.str (ZL n d.toNat), .i 0])) :=
 zv (T := (KR G).plus 79 Vo) (an := .auto) mixed (zz.plus (YF hG) (S8 hG)) (Eq.mp (by kernel_rfl) (Ix G n d hn hd))
theorem jV {G : List (Nat × Obj)} (hG : zO G) : zP Tryz.prog G 50 PH := by
 intro xs ps r h hp
 unfold PH at h
 split at h
 ·skip
  rename_i n d
  cases h
  obtain ⟨q0, q1, -⟩ := Zo hp
  exact weaken (ys := [.i n, .i d]) ⟨zV _, zV _, trivial⟩ (HD hG n d q0 q1)
 ·cases h
def Qs : List AV → Option (List zN × AV)
 | [.v (.int .u64 x)] => some ([.p (0 ≤ x ∧ x ≤ 18446744073709551615)], .i (Lib.bitLen x.toNat))
 | _ => none
theorem im : zP Tryz.prog [] 88 Qs := by
 intro xs ps r h hp
 unfold Qs at h
 split at h
 ·rename_i x
  cases h
  have q : 0 ≤ x ∧ x ≤ 18446744073709551615 := hp _ List.mem_cons_self
  refine ⟨enters_of Tryz.func88 (by kernel_rfl) rfl, fun w S vals hS hg hr => ?_⟩
  match vals, hr with
  | [v], ⟨hv, _⟩ =>
  obtain rfl := ZR hv
  refine (Tryz.bits_Len x w q.1 q.2).mono ?_
  rintro e w' ⟨rfl, rfl⟩
  exact ⟨⟨Below.refl _ _, Nat.le_refl _⟩, _, rfl, .v _⟩
 ·cases h
theorem jm : ∀ (f x : Nat), x < 2 ^ f → x < 2 ^ Lib.bitLenAux f x ∧ (x ≠ 0 → 2 ^ Lib.bitLenAux f x ≤ 2 * x) ∧ (x = 0 → Lib.bitLenAux f x = 0)
 | 0, x, h => by
  have : x = 0 := by simpa using h
  subst this
  exact ⟨by decide, fun h => absurd rfl h, fun _ => rfl⟩
 | f + 1, x, h => by
  unfold Lib.bitLenAux
  split
  ·rename_i h0
   exact ⟨by rw [h0]; decide, fun h1 => absurd h0 h1, fun _ => rfl⟩
  ·rename_i h0
   obtain ⟨h1, h2, h3⟩ := jm f (x / 2) (by rw [Nat.pow_succ] at h; omega)
   rw [Nat.pow_add]
   refine ⟨by omega, fun _ => ?_, fun e => absurd e h0⟩
   by_cases hx : x / 2 = 0
   ·rw [h3 hx]; omega
   ·have := h2 hx
    omega
theorem gG {x : Nat} (h0 : x ≠ 0) (h : x ≤ 1000000000000000000) : x < 2 ^ Lib.bitLen x ∧ Lib.bitLen x ≤ 60 := by
 obtain ⟨h1, h2, _⟩ := jm 64 x (Nat.lt_of_le_of_lt h (by decide))
 refine ⟨h1, Nat.le_of_not_lt fun hl => ?_⟩
 have := h2 h0
 have h3 : 2 ^ 61 ≤ 2 ^ Lib.bitLenAux 64 x := Nat.pow_le_pow_right (by omega) hl
 have h4 : 2 ^ 61 = 2305843009213693952 := by decide
 omega
def Ni (n : Int) : yQ :=
 .two .auto (.two .auto (.two .auto (.one (.loop Nat (fun σ z => [(0, σ.tm 0), (3, .i (z : Int))]) (fun σ z => []) 0 (fun σ z => 0 < z ∧ z ≤ 4294967296 ∧ n.toNat < (z + 1) * (z + 1)) (fun σ z => z) .auto))))
def uL : List AV → Option (List zN × AV)
 | [.v (.int .i64 n)] => some ([.p (0 ≤ n ∧ n ≤ 1000000000000000000)], .i (yC n.toNat : Int))
 | _ => none
theorem Mj (n : Int) (h : 0 ≤ n ∧ n ≤ 1000000000000000000) :
 Zy [aI n] → zZ (zG n (2 : Int)) (kI ∧ n = (cI (yC (Int.toNat n)))) (bF (DB.db (yD IntKind.u64 n)) ((iZ ≤ n ∧ n ≤ (18446744073709551615 : Int)) ∧ bF (dK ((cI (Lib.bitLen (Int.toNat n))) + iO)) (bF (DB.db (yD .i64 (Int.tdiv ((cI (Lib.bitLen (Int.toNat n))) + iO) (2 : Int)))) ((∃ (z : Nat), ((0 < z ∧ z ≤ 4294967296 ∧ Int.toNat n < (z + 1) * (z + 1)) ∧ (kI ∧ n = n) ∧ kI ∧ IntKind.wrap IntKind.i64 (iO * (2 : Int) ^ min (Int.toNat (Int.tdiv ((cI (Lib.bitLen
 (Int.toNat n))) + iO) (2 : Int))) 64) = (cI z)) ∧ True) ∧ ∀ (z : Nat), 0 < z ∧ z ≤ 4294967296 ∧ Int.toNat n < (z + 1) * (z + 1) → bF (DB.db ((cI z) ≠ iZ)) (bF (dK (Int.tdiv n (cI z))) (bF (dK ((cI z) + Int.tdiv n (cI z))) (bF (dK (Int.tdiv ((cI z) + Int.tdiv n (cI z)) (2 : Int))) (zZ (leB (cI z) (Int.tdiv ((cI z) + Int.tdiv n (cI z)) (2 : Int))) (kI ∧ (cI z) = (cI (yC (Int.toNat n)))) (∃ (z' : Nat), (((0 < z' ∧ z' ≤ 4294967296 ∧ Int.toNat n < (z' +
 1) * (z' + 1)) ∧ z' < z) ∧ (kI ∧ n = n) ∧ kI ∧ Int.tdiv ((cI z) + Int.tdiv n (cI z)) (2 : Int) = (cI z')) ∧ True))))))))) := by
 delta bF dK cI kI iZ iO aI
 intro hb
 simp only [sS, dS]
 obtain ⟨m, rfl⟩ : ∃ m : Nat, n = m := ⟨n.toNat, by omega⟩
 rw [Int.toNat_natCast]
 refine ⟨fun hs => ?_, fun hs => ?_⟩
 ·have : m = 0 ∨ m = 1 := by omega
  rcases this with rfl | rfl <;> decide +kernel
 obtain ⟨b1, b2⟩ := gG (x := m) (by omega) (by omega)
 have hm64 : m < 18446744073709551616 := by omega
 obtain ⟨s1, s2⟩ := xn hm64
 have hk : ((Lib.bitLen m : Int) + 1).tdiv 2 = (((Lib.bitLen m + 1) / 2 : Nat) : Int) := by
  rw [Int.tdiv_eq_ediv_of_nonneg (by omega)]; omega
 have hp : 2 ^ ((Lib.bitLen m + 1) / 2) ≤ 2 ^ 31 := Nat.pow_le_pow_right (by omega) (by omega)
 have hp2 : 2 ^ Lib.bitLen m ≤ 2 ^ ((Lib.bitLen m + 1) / 2) * 2 ^ ((Lib.bitLen m + 1) / 2) := by
  rw [← Nat.pow_add]
  exact Nat.pow_le_pow_right (by omega) (by omega)
 have hp0 : 0 < 2 ^ ((Lib.bitLen m + 1) / 2) := Nat.pow_pos (by omega)
 have h31 : 2 ^ 31 = 2147483648 := by decide
 rw [hk, Int.toNat_natCast, show min ((Lib.bitLen m + 1) / 2) 64 = (Lib.bitLen m + 1) / 2 by omega, Int.one_mul, show ((2 : Int) ^ ((Lib.bitLen m + 1) / 2)) = ((2 ^ ((Lib.bitLen m + 1) / 2) : Nat) : Int) by rw [Int.natCast_pow]; rfl]
 generalize 2 ^ ((Lib.bitLen m + 1) / 2) = z0 at *
 refine ⟨by simp only [yD]; omega, ⟨by omega, by omega⟩, by simp only [yD]; omega, by simp only [yD]; omega, ⟨z0, ⟨hp0, by omega, ?_⟩, ?_⟩, fun z ⟨z1, z2, z3⟩ => ?_⟩
 ·have : (z0 + 1) * (z0 + 1) = z0 * z0 + 2 * z0 + 1 := by grind
  omega
 ·rw [wv (by simp only [yD]; omega)]
 have e1 : (m : Int).tdiv (z : Int) = ((m / z : Nat) : Int) := by rw [Int.tdiv_eq_ediv_of_nonneg (by omega), Int.natCast_ediv]
 have hml : m / z ≤ m := Nat.div_le_self _ _
 have g1 := PZ (n := m) (r := z) (s := yC m) z1 s1
 have g2 := T9 (n := m) (r := z) z1
 have hs0 : 0 < yC m := Nat.pos_of_ne_zero fun e => by rw [e] at s2; omega
 rw [e1]
 generalize m / z = q at *
 have e2 : ((z : Int) + (q : Int)).tdiv 2 = (((z + q) / 2 : Nat) : Int) := by rw [Int.tdiv_eq_ediv_of_nonneg (by omega)]; omega
 rw [e2]
 refine ⟨by omega, by simp only [yD]; omega, by simp only [yD]; omega, by simp only [yD]; omega, fun h => ?_, fun h => ⟨(z + q) / 2, ⟨⟨by omega, by omega, ?_⟩, by omega⟩, rfl⟩⟩
 ·rw [My hm64 (g2 (by omega)) z3]
 ·exact Nat.lt_of_lt_of_le s2 (Nat.mul_le_mul (by omega) (by omega))
theorem Ll (n : Int) (h : 0 ≤ n ∧ n ≤ 1000000000000000000) : zu Tryz.prog [] 166 [.i n] (.i (yC n.toNat : Int)) :=
 zv (T := T0.plus 88 Qs) (an := Ni n) mixed (zz.plus zq im) (Eq.mp (by kernel_rfl) (Mj n h))
theorem P2 : zP Tryz.prog [] 166 uL := by
 intro xs ps r h hp
 unfold uL at h
 split at h
 ·skip
  rename_i n
  cases h
  obtain ⟨q0, -⟩ := Zo hp
  exact weaken (ys := [.i n]) ⟨zV _, trivial⟩ (Ll n q0)
 ·cases h
theorem LG : ∀ i ∈ List.range 25, ZY (strOf (zL.getD i undef)) = true ∧ zY (strOf (zL.getD i undef)) = (ZJ.getD i 0 : Int) ∧ (strOf (zL.getD i undef)).length ≤ 18 := by decide
theorem oX : ∀ z ∈ List.range 25, ZJ.take (z + 1) = ZJ.take z ++ [ZJ.getD z 0] ∧ 2 ≤ ZJ.getD z 0 ∧ ZJ.getD z 0 < 98 := by decide
noncomputable def GH (G : List (Nat × Obj)) : Tb := (((KR G).plus 145 Vk).plus 166 uL).plus 50 PH
theorem OR {G : List (Nat × Obj)} (hG : zO G) : zz Tryz.prog (GH G) := zz.plus (zz.plus (zz.plus (YF hG) (zP.mono So)) (zP.mono P2)) (jV hG)
def rk (m : Nat) (z : Nat) : Nat × Nat := yq (ZJ.take z) (1, m)
def Mi (m : Nat) : yQ :=
 .two .auto (.two .auto (.two (.two .auto (.one (.loop Nat (fun σ z => [(1, σ.tm 1), (18, σ.tm 18), (6, .i ((rk m z).1 : Int)), (7, .i ((rk m z).2 : Int)), (19, .i (z : Int))]) (fun σ z => []) 0 (fun σ z => z ≤ 25) (fun σ z => 25 - z) (.two .auto (.two .auto (.two (.one (.two .auto (.two .auto (.one (.loop (Nat × Nat) (fun σ z => [(1, σ.tm 1), (10, σ.tm 10), (18, σ.tm 18), (19, σ.tm 19), (6, .i (z.1 : Int)), (7, .i (z.2 : Int))]) (fun σ z => []) 0 (fun σ z => 0 < z.1 ∧ 0 < z.2 ∧ z.1 * z.1 * z.2 = m ∧ strip (AV.int (σ.tm 10)).toNat z = rk m ((AV.int (σ.tm 19)).toNat + 1)) (fun σ z => z.2) .auto))))) .auto)))))) .auto))
theorem Nv (t : TypeId) (fr : Nat × Nat) (G : List (Nat × Obj)) (n d : Int) (hn : 0 < n) (hd : 0 < d ∧ d ≤ 10000000000000000) (hm : n * d ≤ 100000000000000000) :
 let q1 := (25 = 25 ∧ (((((((((((((((((((((((strOf (Array.getD zL (nat_lit 0) undef) = strOf (Array.getD zL (nat_lit 0) undef) ∧ strOf (Array.getD zL (nat_lit 1) undef) = strOf (Array.getD zL (nat_lit 1) undef)) ∧ strOf (Array.getD zL (nat_lit 2) undef) = strOf (Array.getD zL (nat_lit 2) undef)) ∧ strOf (Array.getD zL (nat_lit 3) undef) = strOf (Array.getD zL (nat_lit 3) undef)) ∧ strOf (Array.getD zL (nat_lit 4) undef) = strOf (Array.getD zL (nat_lit 4) undef)) ∧ strOf (Array.getD zL (nat_lit 5) undef) = strOf (Array.getD zL (nat_lit
 5) undef)) ∧ strOf (Array.getD zL (nat_lit 6) undef) = strOf (Array.getD zL (nat_lit 6) undef)) ∧ strOf (Array.getD zL (nat_lit 7) undef) = strOf (Array.getD zL (nat_lit 7) undef)) ∧ strOf (Array.getD zL (nat_lit 8) undef) = strOf (Array.getD zL (nat_lit 8) undef)) ∧ strOf (Array.getD zL (nat_lit 9) undef) = strOf (Array.getD zL (nat_lit 9) undef)) ∧ strOf (Array.getD zL (nat_lit 10) undef) = strOf (Array.getD zL (nat_lit 10) undef)) ∧ strOf (Array.getD zL (nat_lit 11) undef) = strOf (Array.getD zL (nat_lit 11) undef)) ∧ strOf
 (Array.getD zL (nat_lit 12) undef) = strOf (Array.getD zL (nat_lit 12) undef)) ∧ strOf (Array.getD zL (nat_lit 13) undef) = strOf (Array.getD zL (nat_lit 13) undef)) ∧ strOf (Array.getD zL (nat_lit 14) undef) = strOf (Array.getD zL (nat_lit 14) undef)) ∧ strOf (Array.getD zL (nat_lit 15) undef) = strOf (Array.getD zL (nat_lit 15) undef)) ∧ strOf (Array.getD zL (nat_lit 16) undef) = strOf (Array.getD zL (nat_lit 16) undef)) ∧ strOf (Array.getD zL (nat_lit 17) undef) = strOf (Array.getD zL (nat_lit 17) undef)) ∧ strOf (Array.getD zL
 (nat_lit 18) undef) = strOf (Array.getD zL (nat_lit 18) undef)) ∧ strOf (Array.getD zL (nat_lit 19) undef) = strOf (Array.getD zL (nat_lit 19) undef)) ∧ strOf (Array.getD zL (nat_lit 20) undef) = strOf (Array.getD zL (nat_lit 20) undef)) ∧ strOf (Array.getD zL (nat_lit 21) undef) = strOf (Array.getD zL (nat_lit 21) undef)) ∧ strOf (Array.getD zL (nat_lit 22) undef) = strOf (Array.getD zL (nat_lit 22) undef)) ∧ strOf (Array.getD zL (nat_lit 23) undef) = strOf (Array.getD zL (nat_lit 23) undef)) ∧ strOf (Array.getD zL (nat_lit 24) undef)
 = strOf (Array.getD zL (nat_lit 24) undef)); let q14 := (iZ < d ∧ d ≤ (10000000000000000 : Int)); let q15 := (cI (Prod.fst (nrm (Int.toNat (n * d))))); let q16 := (cI (Prod.snd (nrm (Int.toNat (n * d))))); Zy [aI n, aI d] → bF (dK (n * d)) ((∃ (z : Nat), (z ≤ 25 ∧ (kI ∧ d = d) ∧ q1 ∧ (kI ∧ iO = (cI (Prod.fst (rk (Int.toNat (n * d)) z)))) ∧ (kI ∧ n * d = (cI (Prod.snd (rk (Int.toNat (n * d)) z)))) ∧ kI ∧ iZ = (cI z)) ∧ True) ∧ ∀
 (z : Nat), let q2 := (strOf (Array.getD zL (Int.toNat (cI z)) undef)); let q3 := (Int.toNat (AV.int (aI (zY q2)))); let q4 := (Int.toNat (AV.int (aI (cI z))) + 1); let q5 := (kI ∧ zY q2 = zY q2); let q6 := (kI ∧ (cI z) = (cI z)); let q7 := (cI (Prod.fst (rk (Int.toNat (n * d)) z))); let q8 := (cI (Prod.snd (rk (Int.toNat (n * d)) z))); let q10 := (zY q2 * zY q2); let q9 := (dK q10); let q11 := (DB.db (zY q2 * zY q2 ≠ iZ)); let q12 := (↑(yC (Int.toNat q8)) :
 Int); let q13 := (q7 * q12); z ≤ 25 → zZ (zG (cI z) (25 : Int)) (bF (DB.db (iZ ≤ (cI z) ∧ (cI z) < (↑25 : Int))) (bF (ZY q2) (lN q2 ≤ 18 ∧ (∃ (z_1 : Nat × Nat), ((0 < Prod.fst z_1 ∧ 0 < Prod.snd z_1 ∧ Prod.fst z_1 * Prod.fst z_1 * Prod.snd z_1 = Int.toNat (n * d) ∧ strip q3 z_1 = rk (Int.toNat (n * d)) q4) ∧ (kI ∧ d = d) ∧ q5 ∧ q1 ∧ q6 ∧ (kI ∧ q7 = (cI (Prod.fst z_1))) ∧ kI ∧ q8 = (cI (Prod.snd z_1))) ∧ True) ∧ ∀ (z_1 : Nat × Nat), 0 < Prod.fst z_1 ∧ 0 < Prod.snd z_1 ∧ Prod.fst z_1 * Prod.fst z_1
 * Prod.snd z_1 = Int.toNat (n * d) ∧ strip q3 z_1 = rk (Int.toNat (n * d)) q4 → bF q9 (bF q11 (zZ (Int.tmod (cI (Prod.snd z_1)) q10 == iZ) (bF (dK ((cI (Prod.fst z_1)) * zY q2)) (bF q9 (bF q11 (bF (dK (Int.tdiv (cI (Prod.snd z_1)) q10)) (∃ (z' : Nat × Nat), (((0 < Prod.fst z' ∧ 0 < Prod.snd z' ∧ Prod.fst z' * Prod.fst z' * Prod.snd z' = Int.toNat (n * d) ∧ strip q3 z' = rk (Int.toNat (n * d)) q4) ∧ Prod.snd z' < Prod.snd z_1) ∧ (kI ∧ d = d) ∧ q5 ∧ q1 ∧ q6 ∧ (kI ∧ (↑(Prod.fst z_1) :
 Int) * zY q2 = (cI (Prod.fst z'))) ∧ kI ∧ Int.tdiv (cI (Prod.snd z_1)) q10 = (cI (Prod.snd z'))) ∧ True))))) (bF (dK ((cI z) + iO)) (∃ (z' : Nat), ((z' ≤ 25 ∧ 25 - z' < 25 - z) ∧ (kI ∧ d = d) ∧ q1 ∧ (kI ∧ (cI (Prod.fst z_1)) = (cI (Prod.fst (rk (Int.toNat (n * d)) z')))) ∧ (kI ∧ (cI (Prod.snd z_1)) = (cI (Prod.snd (rk (Int.toNat (n * d)) z')))) ∧ kI ∧ (cI z) + iO = (cI z')) ∧ True)))))))
 ((iZ ≤ q8 ∧ q8 ≤ (1000000000000000000 : Int)) ∧ bF (dK (q12 * q12)) (zZ (q12 * q12 == q8) (bF (dK q13) (((-10000000000000000 : Int) ≤ q7 * q12 ∧ q7 * q12 ≤ (10000000000000000 : Int)) ∧ q14 ∧ (iN ≤ iO ∧ iO ≤ iX) ∧ j2 ∧ (True ∧ ZL q13 (Int.toNat d) = ZL q15 (Int.toNat d)) ∧ Lib.itoa iO = Lib.itoa q16)) (((-10000000000000000 : Int) ≤ q7 ∧ q7 ≤ (10000000000000000 : Int)) ∧ q14 ∧ (iN ≤ q8 ∧ q8 ≤
 iX) ∧ j2 ∧ (True ∧ ZL q7 (Int.toNat d) = ZL q15 (Int.toNat d)) ∧ Lib.itoa q8 = Lib.itoa q16)))) := by
 delta bF dK cI kI j2 lN iZ iO iX iN aI
 dsimp only
 intro hb
 simp only [sS, dS]
 obtain ⟨N, rfl⟩ : ∃ N : Nat, n = N := ⟨n.toNat, by omega⟩
 obtain ⟨D, rfl⟩ : ∃ D : Nat, d = D := ⟨d.toNat, by omega⟩
 rw [← Int.natCast_mul] at *
 rw [Int.toNat_natCast, Int.toNat_natCast]
 have hm0 : 0 < N * D := Nat.mul_pos (by omega) (by omega)
 generalize N * D = m at *
 have hS : ∀ z, JL (1, m) (rk m z) := fun z => (Yb (ZJ.take z) (1, m) (fun p hp => Xn p (List.mem_of_mem_take hp)) Nat.one_pos hm0).1
 have hV : ∀ c l : Nat, 0 < c → 0 < l → c * c * l = m → c ≤ 1000000000 ∧ l ≤ m := fun c l h1 h2 h3 => by
  have h4 : c * c * 1 ≤ c * c * l := Nat.mul_le_mul_left _ h2
  have h5 : 1 * l ≤ c * c * l := Nat.mul_le_mul_right _ (Nat.mul_pos h1 h1)
  exact ⟨Nat.le_of_lt (xj (a := c) (b := 1000000000) (by omega)), by omega⟩
 refine ⟨by simp only [yD]; omega, ⟨0, by omega, rfl, rfl, rfl⟩, fun z hz => ⟨fun hlt => ⟨⟨by omega, hlt⟩, ?_⟩, fun hge => ?_⟩⟩
 ·obtain ⟨p1, p2, p3⟩ := LG z (List.mem_range.2 (by omega))
  obtain ⟨t1, t2, t3⟩ := oX z (List.mem_range.2 (by omega))
  rw [p1, XB, p2, Int.toNat_natCast]
  obtain ⟨v, ⟨q1, q2⟩, _⟩ := hS z
  have hst : strip (ZJ.getD z 0) (rk m z) = rk m (z + 1) := by
   show strip _ (Ar.yq _ _) = Ar.yq _ _
   rw [t1, W5]
  generalize ZJ.getD z 0 = p at *
  refine ⟨p3, ⟨rk m z, ⟨q1, q2, by simpa using v, hst⟩, rfl, rfl⟩, fun y ⟨y1, y2, y3, y4⟩ => ?_⟩
  obtain ⟨c, l⟩ := y
  simp only at *
  obtain ⟨b1, b2⟩ := hV c l y1 y2 y3
  have hpp : p * p ≤ 98 * 98 := Nat.mul_le_mul (by omega) (by omega)
  have hpp2 : 2 * 2 ≤ p * p := Nat.mul_le_mul t2 t2
  have e1 : (l : Int).tmod ((p * p : Nat) : Int) = ((l % (p * p) : Nat) : Int) := by rw [Int.tmod_eq_emod_of_nonneg (by omega)]; omega
  have e2 : (l : Int).tdiv ((p * p : Nat) : Int) = ((l / (p * p) : Nat) : Int) := by rw [Int.tdiv_eq_ediv_of_nonneg (by omega), Int.natCast_ediv]
  rw [← Int.natCast_mul, e1, e2]
  have hcp : c * p ≤ 1000000000 * 98 := Nat.mul_le_mul b1 (by omega)
  have hdl : l / (p * p) ≤ l := Nat.div_le_self _ _
  refine ⟨by simp only [yD]; omega, by omega, fun h => ?_, fun h => ⟨by simp only [yD]; omega, z + 1, ⟨by omega, by omega⟩, ?_⟩⟩
  ·have h : l % (p * p) = 0 := by omega
   have hd := Nat.dvd_of_mod_eq_zero h
   have h2 : 0 < l / (p * p) := Nat.div_pos (Nat.le_of_dvd y2 hd) (by omega)
   refine ⟨by rw [← Int.natCast_mul]; simp only [yD]; omega, by simp only [yD]; omega, by omega, by simp only [yD]; omega, (c * p, l / (p * p)), ⟨⟨Nat.mul_pos y1 (by omega), h2, ?_, by rw [← RS t2 y2 h]; exact y4⟩, WO t2 y2⟩, by rw [Int.natCast_mul], rfl⟩
   obtain ⟨k, rfl⟩ := hd
   simp only
   rw [Nat.mul_div_cancel_left _ (by omega), ← y3]
   grind
  ·rw [Qg (by omega)] at y4
   rw [← y4]
   exact ⟨rfl, rfl, by omega⟩
 ·have hz25 : z = 25 := by omega
  subst hz25
  have hN : nrm m = T8 (rk m 25) := rfl
  obtain ⟨v, ⟨q1, q2⟩, _⟩ := hS 25
  rw [hN]
  generalize rk m 25 = y at *
  obtain ⟨c, l⟩ := y
  simp only [Nat.one_mul] at *
  obtain ⟨b1, b2⟩ := hV c l q1 q2 v
  obtain ⟨s1, s2⟩ := xn (n := l) (by omega)
  have hr : yC l ≤ 1000000000 := Nat.le_of_lt (xj (a := yC l) (b := 1000000000) (by omega))
  unfold T8
  simp only
  rw [← Int.natCast_mul, ← Int.natCast_mul]
  have hcr : c * yC l * (c * yC l) ≤ m := by
   have e : c * yC l * (c * yC l) = c * c * (yC l * yC l) := by grind
   rw [e, ← v]
   exact Nat.mul_le_mul_left _ s1
  have hcr2 : c * yC l < 1000000000 := xj (by omega)
  refine ⟨⟨by omega, by omega⟩, by simp only [yD]; omega, fun h => ?_, fun h => ?_⟩
  ·rw [if_pos (by omega)]
   exact ⟨by simp only [yD]; omega, ⟨by omega, by omega⟩, hd, ⟨by omega, by omega⟩, rfl, rfl, rfl⟩
  ·rw [if_neg (by omega)]
   exact ⟨⟨by omega, by omega⟩, hd, ⟨by omega, by omega⟩, rfl, rfl, rfl⟩
end Go.Te
