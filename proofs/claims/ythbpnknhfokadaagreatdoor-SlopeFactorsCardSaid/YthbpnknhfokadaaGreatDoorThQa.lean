/- rational: what is told of numbers as rational numbers. -/
import Derived.Test.YthbpnknhfokadaaGreatDoorThRc
import Derived.Test.YthbpnknhfokadaaGreatDoorArW
import Derived.Lib.BitFns
set_option linter.unusedSimpArgs false
set_option linter.unusedVariables false
namespace Go.Te
open Go Go.Sx Go.Proofs Go.Ar
set_option maxRecDepth 100000
set_option maxHeartbeats 4000000
theorem kS {k : Nat} {a : zj} (h : Yx k a) (hk : 0 < k) (hk2 : k ≤ 300) : a.length ≤ 700 := by
 obtain ⟨h1, h2, h3⟩ := h.parts
 have a1 : x9 (zK a) ≤ k := xt hk h1
 have a2 : Lib.nDigits (zn a) ≤ k := (z8 hk).2 h2
 rw [← wR (ZR.1 h.1).1]
 unfold Ye
 rw [List.length_append, XY]
 have b2 : (bif Nat.beq (zn a) 1 then [] else 47 :: Lib.decDigits (zn a)).length ≤ 301 := by
  cases Nat.beq (zn a) 1 with
  | true => simp
  | false => rw [cond_false, List.length_cons, Lib.decDigits_length]; omega
 split <;> omega
theorem YU {k : Nat} {a : zj} (h : Yx k a) (hk : 0 < k) (hk2 : k ≤ 300) : a.length ≤ 9223372036854775807 := Nat.le_trans (kS h hk hk2) (by decide)
theorem KT {n d : Int} (hd : d ≠ 0) : xU n d = zW ((n : Rat) / (d : Rat)) := by
 unfold xU
 have e1 : ((d.natAbs : Nat) : Rat) = ((d.natAbs : Int) : Rat) := (Rat.intCast_natCast _).symm
 cases h : zG d 0 with
 | true =>
  have h := (zp _ _).1 h
  rw [cond_true, YG _ (by omega), Rat.mkRat_eq_div]
  congr 1
  rw [show (-d).toNat = d.natAbs by omega, e1, show ((d.natAbs : Nat) : Int) = -d by omega, Rat.intCast_neg, Rat.intCast_neg]
  grind
 | false =>
  have h : ¬ d < 0 := fun e => by rw [(zp _ _).2 e] at h; cases h
  rw [cond_false, YG _ (by omega), Rat.mkRat_eq_div]
  congr 1
  rw [show d.toNat = d.natAbs by omega, e1, show ((d.natAbs : Nat) : Int) = d by omega]
theorem xg {k : Nat} {n : Int} (h : n.natAbs < 10 ^ k) (h0 : 0 < k) (hk : k ≤ 300) : ZL n = 0 := (ZO h0 hk h).2
theorem uH {j k : Nat} {a b : zj} (ha : Yx j a) (hb : Yx k b) : (zK a * (zn b : Int)).natAbs < 10 ^ (j + k) ∧ (zK b * (zn a : Int)).natAbs < 10 ^ (j + k) ∧ (zK a * zK b).natAbs < 10 ^ (j + k) ∧ ((zn a : Int) * (zn b : Int)).natAbs < 10 ^ (j + k) := by
 obtain ⟨a1, a2, a3⟩ := ha.parts
 obtain ⟨b1, b2, b3⟩ := hb.parts
 refine ⟨?_, ?_, ?_, ?_⟩
 ·rw [Int.natAbs_mul, Int.natAbs_natCast]; exact YR a1 b2
 ·rw [Int.natAbs_mul, Int.natAbs_natCast, Nat.mul_comm]; exact YR a2 b1
 ·rw [Int.natAbs_mul]; exact YR a1 b1
 ·rw [← Int.natCast_mul, Int.natAbs_natCast]; exact YR a2 b2
theorem jJ {u v w k : Nat} (h1 : u < 10 ^ k) (h2 : v < 10 ^ k) (h : w ≤ u + v) : w < 10 ^ (k + 1) := by
 rw [Nat.pow_succ]; omega
theorem Hl {f : Int → Int → Int} (hf : ∀ u v, (f u v).natAbs ≤ u.natAbs + v.natAbs) {a b : zj} (ha : Yx 140 a) (hb : Yx 140 b) : tc f a b = 0 ∧ Pu f a b = zW (mkRat (f (zK a * (zn b : Int)) (zK b * (zn a : Int))) (zn a * zn b)) := by
 obtain ⟨m1, m2, m3, m4⟩ := uH ha hb
 have m5 := jJ m1 m2 (hf (zK a * (zn b : Int)) (zK b * (zn a : Int)))
 have e : tc f a b = 0 := by
  unfold tc vF js
  rw [ha.1, hb.1, xg m1 (by decide) (by decide), xg m2 (by decide) (by decide), xg m5 (by omega) (by omega), xg m4 (by decide) (by decide)]
  rfl
 refine ⟨e, ?_⟩
 unfold Pu
 rw [e]
 show Zj _ _ = _
 rw [YG _ (Nat.mul_pos ha.parts.2.2 hb.parts.2.2)]; rfl
def TR (c : zj → zj → Prop) (r : zj → zj → AV) : List AV → Option (List zN × AV)
 | [.str a, .str b] => some ([.p (c a b)], r a b)
 | _ => none
theorem PW {P : Program} {G : List (Nat × Obj)} {f : FuncId} {c : zj → zj → Prop} {r : zj → zj → AV} (h : ∀ a b, c a b → zu P G f [.str a, .str b] (r a b)) : zP P G f (TR c r) := by
 intro xs ps r' e hp
 unfold TR at e
 split at e
 ·cases e
  exact h _ _ (hp _ List.mem_cons_self)
 ·cases e
structure YJ (k : Nat) (a b : zj) : Prop where
 fa : Yx k a
 fb : Yx k b
abbrev GZ (f : Rat → Rat → Rat) (a b : zj) : AV := .tup 2 (zw [.str (zW (f (zo a) (zo b))), .i 0])
def S7 := TR (YJ 140) (GZ (· + ·))
theorem Ql {G : List (Nat × Obj)} (hG : zO G) : zP Tryz.prog G 30 S7 := PW fun a b h => by
 have := Ij hG a b (YU h.1 (by decide) (by decide)) (YU h.2 (by decide) (by decide))
 obtain ⟨e1, e2⟩ := Hl (f := fun x y => x + y) (fun u v => by omega) h.1 h.2
 rw [e1, e2, Kl h.1.parts.2.2 h.2.parts.2.2] at this
 exact this
def vS := TR (YJ 140) (GZ (· * ·))
theorem Vt {G : List (Nat × Obj)} (hG : zO G) : zP Tryz.prog G 40 vS := PW fun a b h => by
 have := iS hG a b (YU h.1 (by decide) (by decide)) (YU h.2 (by decide) (by decide))
 obtain ⟨m1, m2, m3, m4⟩ := uH h.1 h.2
 have e1 : TV a b = 0 := by
  unfold TV
  rw [h.1.1, h.2.1, xg m3 (by decide) (by decide), xg m4 (by decide) (by decide)]
  rfl
 have e2 : Pa a b = zW (zo a * zo b) := by
  unfold Pa
  rw [e1]
  show Zj _ _ = _
  rw [YG _ (Nat.mul_pos h.1.parts.2.2 h.2.parts.2.2), Ll]
 rw [e1, e2] at this
 exact this
def XA (p q : Rat) : Int := if p < q then -1 else if p = q then 0 else 1
theorem nq {a b : zj} (ha : zH a = 0) (hb : zH b = 0) : xL (zK a * (zn b : Int)) (zK b * (zn a : Int)) = XA (zo a) (zo b) := by
 have h1 : zo a < zo b ↔ zK a * (zn b : Int) < zK b * (zn a : Int) := by rw [Rat.lt_iff, (Z2 ha).1, (Z2 ha).2, (Z2 hb).1, (Z2 hb).2]
 have h2 : zo a = zo b ↔ zK a * (zn b : Int) = zK b * (zn a : Int) := by rw [Rat.eq_iff_mul_eq_mul, (Z2 ha).1, (Z2 ha).2, (Z2 hb).1, (Z2 hb).2]
 unfold xL XA
 generalize zK a * (zn b : Int) = x at *
 generalize zK b * (zn a : Int) = y at *
 by_cases h : x < y
 ·rw [(zp _ _).2 h, if_pos (h1.2 h)]; rfl
 ·rw [show zG x y = false from Bool.eq_false_iff.2 fun e => h ((zp _ _).1 e), if_neg fun e => h (h1.1 e)]
  by_cases h3 : x = y
  ·rw [if_pos (h2.2 h3), h3, beq_self_eq_true]; rfl
  ·rw [if_neg fun e => h3 (h2.1 e), beq_eq_false_iff_ne.2 h3]; rfl
def Sy := TR (YJ 140) fun a b => .tup 2 (zw [.i (XA (zo a) (zo b)), .i 0])
theorem pZ {G : List (Nat × Obj)} (hG : zO G) : zP Tryz.prog G 29 Sy := PW fun a b h => by
 have := Ii hG a b (YU h.1 (by decide) (by decide)) (YU h.2 (by decide) (by decide))
 obtain ⟨m1, m2, m3, m4⟩ := uH h.1 h.2
 have e1 : vF a b = 0 := by
  unfold vF
  rw [h.1.1, h.2.1, xg m1 (by decide) (by decide), xg m2 (by decide) (by decide)]
  rfl
 have e2 : qp a b = XA (zo a) (zo b) := by
  unfold qp
  rw [e1]
  exact nq h.1.1 h.2.1
 rw [e1, e2] at this
 exact this
def pC (c : zj → Prop) (r : zj → AV) : List AV → Option (List zN × AV)
 | [.str a] => some ([.p (c a)], r a)
 | _ => none
theorem jR {P : Program} {G : List (Nat × Obj)} {f : FuncId} {c : zj → Prop} {r : zj → AV} (h : ∀ a, c a → zu P G f [.str a] (r a)) : zP P G f (pC c r) := by
 intro xs ps r' e hp
 unfold pC at e
 split at e
 ·cases e
  exact h _ (hp _ List.mem_cons_self)
 ·cases e
def tX := pC (Yx 300) fun _ => .i 0
theorem rq {G : List (Nat × Obj)} (hG : zO G) : zP Tryz.prog G 43 tX := jR fun a h => by
 have := je hG a (YU h (by decide) (by decide))
 rw [h.1] at this
 exact this
theorem Oc {a : zj} (h : zH a = 0) : zm a = Lib.itoa (zo a).num ∧ yw a = Lib.itoa ((zo a).den : Int) := by
 obtain ⟨v1, v2, v3, v4⟩ := lK h
 rw [(Z2 h).1, (Z2 h).2, ← v3, ← v4, Yd (yS.1 v1).1, Yd (yS.1 v2).1]
 exact ⟨rfl, rfl⟩
theorem mF (G : List (Nat × Obj)) (a : List UInt8) (hl : a.length ≤ 9223372036854775807) :
 ZY [AV.str a] → lN a ≤ nX ∧ 3 = lN [AV.junk, AV.junk, AV.junk] ∧ ((True ∧ (bif zH a == iZ then zm a else []) = bif zH a == iZ then zm a else []) ∧ (bif zH a == iZ then yw a else []) = bif zH a == iZ then yw a else []) ∧ kI ∧ zH a = zH a := by
 delta nX kI lN iZ
 intro hb
 simp only [sS, dS]
 exact ⟨hl, rfl⟩
theorem Lq {G : List (Nat × Obj)} (hG : zO G) (a : List UInt8) (hl : a.length ≤ 9223372036854775807) : zu Tryz.prog G 85 [.str a] (.tup 3 (zw [.str (bif zH a == 0 then zm a else []), .str (bif zH a == 0 then yw a else []), .i (zH a)])) :=
 zv (T := (Xh G).plus 57 ws) (an := .auto) mixed (zz.plus zq (vM hG)) (Eq.mp (by kernel_rfl) (mF G a hl))
def sK := pC (Yx 300) fun a => .tup 3 (zw [.str (Lib.itoa (zo a).num), .str (Lib.itoa ((zo a).den : Int)), .i 0])
theorem Qu {G : List (Nat × Obj)} (hG : zO G) : zP Tryz.prog G 85 sK := jR fun a h => by
 have := Lq hG a (YU h (by decide) (by decide))
 obtain ⟨e1, e2⟩ := Oc h.1
 rw [h.1] at this
 simp only [beq_self_eq_true, cond_true] at this
 rw [e1, e2] at this
 exact this
def nS : List AV → Option (List zN × AV)
 | [.agg 2 p_x, .agg 2 p_y] => some ([.b (Ya (p_x 0) && Ya (p_x 1)), .b (Ya (p_y 0) && Ya (p_y 1)), .p (tD (⟨AV.int (p_x 0), AV.int (p_x 1)⟩ : Nt)), .p (tD (⟨AV.int (p_y 0), AV.int (p_y 1)⟩ : Nt))], xZ (⟨(⟨AV.int (p_x 0), AV.int (p_x 1)⟩ : Nt).n * (⟨AV.int (p_y 0), AV.int (p_y 1)⟩ : Nt).d, (⟨AV.int (p_x 0), AV.int (p_x 1)⟩ : Nt).d * (⟨AV.int (p_y 0), AV.int (p_y 1)⟩ : Nt).n⟩ : Nt))
 | _ => none
theorem il (x : Nt) (y : Nt) (h1 : tD x) (h2 : tD y) :
 ZY [AV.agg 2 (zr.enc x), AV.agg 2 (zr.enc y)] → bF (dK (Nt.n x * Nt.d y)) (bF (dK (Nt.d x * Nt.n y)) (2 = 2 ∧ (kI ∧ Nt.n x * Nt.d y = Nt.n (Nt.mk (Nt.n x * Nt.d y) (Nt.d x * Nt.n y))) ∧ kI ∧ Nt.d x * Nt.n y = Nt.d (Nt.mk (Nt.n x * Nt.d y) (Nt.d x * Nt.n y)))) := by
 delta bF dK kI
 intro hb
 simp only [sS, dS]
 unfold tD at h1 h2
 have m1 := Yq (a := x.n) (b := y.d) h1.1 ⟨by omega, h2.2.2⟩
 have m3 := Yq (a := x.d) (b := y.n) ⟨by omega, h1.2.2⟩ h2.1
 exact ⟨⟨by omega, by omega⟩, ⟨by omega, by omega⟩⟩
theorem Hk (x : Nt) (y : Nt) (h1 : tD x) (h2 : tD y) : zu Tryz.prog [] 104 [xZ x, xZ y] (xZ (⟨x.n * y.d, x.d * y.n⟩ : Nt)) :=
 zv (T := T0) (an := .auto) mixed zq (Eq.mp (by kernel_rfl) (il x y h1 h2))
theorem I2 : zP Tryz.prog [] 104 nS := by
 intro xs ps r h hp
 unfold nS at h
 split at h
 ·skip
  rename_i p_x p_y
  cases h
  obtain ⟨q0, q1, q2, q3, -⟩ := Zo hp
  exact weaken (ys := [xZ (⟨AV.int (p_x 0), AV.int (p_x 1)⟩ : Nt), xZ (⟨AV.int (p_y 0), AV.int (p_y 1)⟩ : Nt)]) ⟨ZS (x := .agg 2 p_x) (α := Nt) q0, ZS (x := .agg 2 p_y) (α := Nt) q1, trivial⟩ (Hk (⟨AV.int (p_x 0), AV.int (p_x 1)⟩ : Nt) (⟨AV.int (p_y 0), AV.int (p_y 1)⟩ : Nt) q2 q3)
 ·cases h
noncomputable def Ge (G : List (Nat × Obj)) : Tb := (((Xh G).plus 78 vT).plus 79 VJ).body Tryz.prog [(58, .auto)]
theorem O6 {G : List (Nat × Obj)} (hG : zO G) : zz Tryz.prog (Ge G) := zz.body mixed (zz.plus (zz.plus zq (Ue hG)) (sj hG)) _
def Nf : List AV → Option (List zN × AV)
 | [.agg 2 p_x, .agg 2 p_y] => some ([.b (ZK (p_x 0) && ZK (p_x 1)), .b (ZK (p_y 0) && ZK (p_y 1)), .p (TY (⟨AV.bytes (p_x 0), AV.bytes (p_x 1)⟩ : Pt)), .p (TY (⟨AV.bytes (p_y 0), AV.bytes (p_y 1)⟩ : Pt)), .p (zY (⟨AV.bytes (p_y 0), AV.bytes (p_y 1)⟩ : Pt).n ≠ 0), .p (ZL (zY (⟨AV.bytes (p_x 0), AV.bytes (p_x 1)⟩ : Pt).n * zY (⟨AV.bytes (p_y 0), AV.bytes (p_y 1)⟩ : Pt).d) = 0), .p (ZL (zY (⟨AV.bytes (p_y 0), AV.bytes (p_y 1)⟩ : Pt).n * zY (⟨AV.bytes (p_x 0), AV.bytes (p_x 1)⟩ : Pt).d) = 0)], .tup 2 (zw [.str (xU (zY (⟨AV.bytes (p_x 0), AV.bytes (p_x 1)⟩ : Pt).n * zY (⟨AV.bytes (p_y 0), AV.bytes (p_y 1)⟩ : Pt).d) (zY (⟨AV.bytes (p_y 0), AV.bytes (p_y 1)⟩ : Pt).n * zY (⟨AV.bytes (p_x 0), AV.bytes (p_x 1)⟩ : Pt).d)), .i 0]))
 | _ => none
theorem Ie (G : List (Nat × Obj)) (x : Pt) (y : Pt) (h1 : TY x) (h2 : TY y) (h3 : zY y.n ≠ 0) (h4 : ZL (zY x.n * zY y.d) = 0) (h5 : ZL (zY y.n * zY x.d) = 0) :
 let q1 := (True ∧ bA #[] = xU (zY (Pt.n x) * zY (Pt.d y)) (zY (Pt.n y) * zY (Pt.d x))); let q2 := (YC (fun (x1 x2 : Int) => x1 * x2) (Pt.n x) (Pt.d y) != iZ); let q3 := (bA #[]); let q4 := (zY q3); let q5 := (y5 (fun (x1 x2 : Int) => x1 * x2) (Pt.n x) (Pt.d y)); let q6 := (y5 (fun (x1 x2 : Int) => x1 * x2) (Pt.n y) (Pt.d x)); ZY [AV.agg 2 (zr.enc x), AV.agg 2 (zr.enc y)] → zZ (Pt.n y == bA #[(48 : UInt8)]) (j2
 ∧ q1 ∧ kI ∧ (12 : Int) = iZ) (lN (Pt.n x) ≤ nM ∧ lN (Pt.d y) ≤ nM ∧ zZ q2 (zZ q2 (j2 ∧ q1 ∧ kI ∧ YC (fun (x1 x2 : Int) => x1 * x2) (Pt.n x) (Pt.d y) = iZ) (Zq q3 = iZ ∧ Zq q3 = iZ ∧ zY q3 ≠ iZ ∧ j2 ∧ (True ∧ xU q4 q4 = xU (zY (Pt.n x) * zY (Pt.d y)) (zY (Pt.n y) * zY (Pt.d x))) ∧ kI ∧ iZ = iZ)) (lN (Pt.n y) ≤ nM ∧ lN (Pt.d x) ≤ nM ∧ zZ (YC
 (fun (x1 x2 : Int) => x1 * x2) (Pt.n y) (Pt.d x) != iZ) (j2 ∧ q1 ∧ kI ∧ YC (fun (x1 x2 : Int) => x1 * x2) (Pt.n y) (Pt.d x) = iZ) (Zq q5 = iZ ∧ Zq q6 = iZ ∧ zY q6 ≠ iZ ∧ j2 ∧ (True ∧ xU (zY q5) (zY q6) = xU (zY (Pt.n x) * zY (Pt.d y)) (zY (Pt.n y) * zY (Pt.d x))) ∧ kI ∧ iZ = iZ))) := by
 delta bA nM kI j2 lN iZ
 dsimp only
 intro hb
 simp only [sS, dS]
 obtain ⟨a1, a2, a3⟩ := h1
 obtain ⟨b1, b2, b3⟩ := h2
 have l1 := (yt a1).2.1
 have l2 := (yt a2).2.1
 have l3 := (yt b1).2.1
 have l4 := (yt b2).2.1
 obtain ⟨p1, p2⟩ := X9 (f := fun x1 x2 => x1 * x2) a1 b2
 obtain ⟨p3, p4⟩ := X9 (f := fun x1 x2 => x1 * x2) b1 a2
 obtain ⟨r1, r2, r3⟩ := wE h4
 obtain ⟨r4, r5, r6⟩ := wE h5
 rw [p1, p2, p3, p4, h4, h5, r2, r5]
 refine zX.2 ⟨fun c => absurd (by rw [eq_of_beq c]; decide) h3, fun _ => ⟨by omega, by omega, fun h => absurd rfl h, fun _ => ⟨by omega, by omega, fun h => absurd rfl h, fun _ => ⟨r1, r4, Int.mul_ne_zero h3 a3, rfl, rfl⟩⟩⟩⟩
theorem Hc {G : List (Nat × Obj)} (hG : zO G) (x : Pt) (y : Pt) (h1 : TY x) (h2 : TY y) (h3 : zY y.n ≠ 0) (h4 : ZL (zY x.n * zY y.d) = 0) (h5 : ZL (zY y.n * zY x.d) = 0) : zu Tryz.prog G 105 [xZ x, xZ y] (.tup 2 (zw [.str (xU (zY x.n * zY y.d) (zY y.n * zY x.d)), .i 0])) :=
 zv (T := Ge G) (an := .auto) mixed (O6 hG) (Eq.mp (by kernel_rfl) (Ie G x y h1 h2 h3 h4 h5))
theorem HU {G : List (Nat × Obj)} (hG : zO G) : zP Tryz.prog G 105 Nf := by
 intro xs ps r h hp
 unfold Nf at h
 split at h
 ·skip
  rename_i p_x p_y
  cases h
  obtain ⟨q0, q1, q2, q3, q4, q5, q6, -⟩ := Zo hp
  exact weaken (ys := [xZ (⟨AV.bytes (p_x 0), AV.bytes (p_x 1)⟩ : Pt), xZ (⟨AV.bytes (p_y 0), AV.bytes (p_y 1)⟩ : Pt)]) ⟨ZS (x := .agg 2 p_x) (α := Pt) q0, ZS (x := .agg 2 p_y) (α := Pt) q1, trivial⟩ (Hc hG (⟨AV.bytes (p_x 0), AV.bytes (p_x 1)⟩ : Pt) (⟨AV.bytes (p_y 0), AV.bytes (p_y 1)⟩ : Pt) q2 q3 q4 q5 q6)
 ·cases h
noncomputable def GA (G : List (Nat × Obj)) : Tb := (((((Xh G).plus 57 ws).plus 55 Vn).plus 101 S5).plus 104 nS).plus 105 Nf |>.body Tryz.prog [(60, .auto), (62, .auto)]
theorem O8 {G : List (Nat × Obj)} (hG : zO G) : zz Tryz.prog (GA G) :=
 zz.body mixed (zz.plus (zz.plus (zz.plus (zz.plus (zz.plus zq (vM hG)) (zP.mono sd)) (MA hG)) (zP.mono I2)) (HU hG)) _
theorem I6 {a b : zj} (ha : Yx 140 a) (hb : Yx 140 b) (hp : zo b ≠ 0) : zK b ≠ 0 ∧ (zn a : Int) * zK b ≠ 0 ∧ xU (zK a * (zn b : Int)) (zK b * (zn a : Int)) = zW (zo a / zo b) := by
 have h0 : zK b ≠ 0 := fun e => hp (by unfold zo; rw [e]; exact Rat.zero_mkRat _)
 have da := ha.parts.2.2
 have db := hb.parts.2.2
 refine ⟨h0, Int.mul_ne_zero (by omega) h0, ?_⟩
 rw [KT (Int.mul_ne_zero h0 (by omega))]
 congr 1
 unfold zo
 rw [Rat.mkRat_eq_div, Rat.mkRat_eq_div, Rat.intCast_mul, Rat.intCast_mul, Rat.intCast_natCast, Rat.intCast_natCast]
 have e1 : ((zn a : Nat) : Rat) ≠ 0 := fun e => by have := Rat.natCast_eq_zero_iff.1 e; omega
 have e2 : ((zn b : Nat) : Rat) ≠ 0 := fun e => by have := Rat.natCast_eq_zero_iff.1 e; omega
 have e3 : ((zK b : Int) : Rat) ≠ 0 := fun e => h0 (Rat.intCast_eq_zero_iff.1 e)
 grind
theorem L9 (G : List (Nat × Obj)) (a : List UInt8) (b : List UInt8) (ha : Yx 140 a) (hc : Yx 140 b) (hp : zo b ≠ 0) :
 let q2 := (True ∧ bA #[] = zW (zo a / zo b)); let q6 := (Value.agg #[Value.string (ByteArray.mk #[]), Value.string (ByteArray.mk #[])]); let q5 := (fun (i : Nat) => if 0 ≤ i ∧ i < 0 + 2 then zw [AV.str (bif zH a == iZ then zm a else []), AV.str (bif zH a == iZ then yw a else [])] (i - 0) else Z5 q6 i); let q4 := (Pt.mk (AV.bytes (q5 0)) (AV.bytes (q5 1))); let q3 := (Pt.n q4); let q7 := (Pt.d q4); let q10 := (fun (i : Nat) => if 0 ≤ i ∧ i < 0 + 2 then zw [AV.str (bif zH b == iZ then zm b else []), AV.str
 (bif zH b == iZ then yw b else [])] (i - 0) else Z5 q6 i); let q9 := (Pt.mk (AV.bytes (q10 0)) (AV.bytes (q10 1))); let q8 := (Pt.n q9); let q11 := (Pt.d q9); let q12 := (zY q3 * zY q11); let q13 := (zY q8 * zY q7); let q1 := (lN a ≤ nX ∧ zZ (zH a != iZ) (j2 ∧ q2 ∧ kI ∧ zH a = iZ) (lN b ≤ nX ∧ zZ (zH b != iZ) (j2 ∧ q2 ∧ kI ∧ zH b = iZ) ((Zq q3 = iZ ∧ Zq q7 = iZ ∧
 zY q7 ≠ iZ) ∧ (Zq q8 = iZ ∧ Zq q11 = iZ ∧ zY q11 ≠ iZ) ∧ zY q8 ≠ iZ ∧ ZL q12 = iZ ∧ ZL q13 = iZ ∧ j2 ∧ (True ∧ xU q12 q13 = zW (zo a / zo b)) ∧ kI ∧ iZ = iZ))); let q16 := (Value.agg #[Value.int .i64 iZ, Value.int .i64 iZ]); let q15 := (fun (i : Nat) => if 0 ≤ i ∧ i < 0 + 2 then zw [AV.i (bif z7 a then zK a else iZ), AV.i (bif z7 a then (cI (zn a)) else iZ)] (i - 0) else Z5 q16 i); let q14 := (Nt.mk (AV.int (q15 0))
 (AV.int (q15 1))); let q18 := (fun (i : Nat) => if 0 ≤ i ∧ i < 0 + 2 then zw [AV.i (bif z7 b then zK b else iZ), AV.i (bif z7 b then (cI (zn b)) else iZ)] (i - 0) else Z5 q16 i); let q17 := (Nt.mk (AV.int (q18 0)) (AV.int (q18 1))); let q20 := (Nt.mk (Nt.n q14 * Nt.d q17) (Nt.d q14 * Nt.n q17)); let q19 := (Nt.mk (AV.int (aI (Nt.n q20))) (AV.int (aI (Nt.d q20)))); ZY [AV.str a, AV.str b] → zZ (!b == bA #[(48 : UInt8)]) (lN a ≤ nX ∧ zZ (!z7 a) q1
 (lN b ≤ nX ∧ zZ (!z7 b) q1 ((((-99999999 : Int) ≤ Nt.n q14 ∧ Nt.n q14 ≤ (99999999 : Int)) ∧ iZ < Nt.d q14 ∧ Nt.d q14 ≤ (99999999 : Int)) ∧ (((-99999999 : Int) ≤ Nt.n q17 ∧ Nt.n q17 ≤ (99999999 : Int)) ∧ iZ < Nt.d q17 ∧ Nt.d q17 ≤ (99999999 : Int)) ∧ Nt.d q19 ≠ iZ ∧ ((-1000000000000000000 : Int) ≤ Nt.d q19 ∧ Nt.d q19 ≤ (1000000000000000000 : Int)) ∧ ((-1000000000000000000 : Int) ≤ Nt.n q19 ∧ Nt.n q19 ≤ (1000000000000000000 : Int)) ∧ j2 ∧ (True ∧ xU (Nt.n q19) (Nt.d q19) = zW (zo a / zo b)) ∧ IntKind.i64 =
 .i64 ∧ iZ = iZ))) q1 := by
 delta bA nX cI kI j2 lN iZ aI
 dsimp only
 intro hb
 simp only [sS, dS]
 obtain ⟨n0, n1, n2⟩ := I6 ha hc hp
 have h0 : (b == [48]) = false := beq_eq_false_iff_ne.2 fun e => by subst e; exact n0 (by decide)
 have la := YU ha (by decide) (by decide)
 have lb := YU hc (by decide) (by decide)
 obtain ⟨m1, m2, m3, m4⟩ := uH ha hc
 have p1 := VO ha.1
 have p2 := VO hc.1
 obtain ⟨_, _, v1, v2⟩ := lK ha.1
 obtain ⟨_, _, v3, v4⟩ := lK hc.1
 have r1 := xg m1 (by decide) (by decide)
 have r2 := xg m2 (by decide) (by decide)
 have q3 : zY (zm b) ≠ 0 := by rw [v3]; exact n0
 have q4 : ZL (zY (zm a) * zY (yw b)) = 0 := by rw [v1, v4]; exact r1
 have q5 : ZL (zY (zm b) * zY (yw a)) = 0 := by rw [v3, v2]; exact r2
 have q6 : xU (zY (zm a) * zY (yw b)) (zY (zm b) * zY (yw a)) = zW (zo a / zo b) := by rw [v1, v2, v3, v4]; exact n2
 rw [h0]
 refine zX.2 ⟨fun _ => ⟨la, zX.2 ⟨fun c => ?_, fun c => ⟨lb, zX.2 ⟨fun c2 => ?_, fun c2 => ?_⟩⟩⟩⟩, fun c => by cases c⟩
 rotate_left 2
 ·rw [Bool.not_eq_false'] at c c2
  obtain ⟨a1, a2, a3⟩ := yH c
  obtain ⟨b1, b2, b3⟩ := yH c2
  have w1 := Yq (a := zK a) (b := (zn b : Int)) ⟨by omega, by omega⟩ ⟨by omega, by omega⟩
  have w2 := Yq (a := (zn a : Int)) (b := zK b) ⟨by omega, by omega⟩ ⟨by omega, by omega⟩
  rw [c, c2]
  simp only [cond_true]
  have w3 : -1000000000000000000 ≤ (zn a : Int) * zK b ∧ (zn a : Int) * zK b ≤ 1000000000000000000 := ⟨by omega, by omega⟩
  have w4 : -1000000000000000000 ≤ zK a * (zn b : Int) ∧ zK a * (zn b : Int) ≤ 1000000000000000000 := ⟨by omega, by omega⟩
  rw [Int.mul_comm (zK b)] at n2
  exact ⟨sY c, sY c2, n1, w3, w4, rfl, n2⟩
 all_goals
  rw [ha.1, hc.1]
  exact ⟨la, fun h => absurd rfl h, fun _ => ⟨lb, fun h => absurd rfl h, fun _ => ⟨p1, p2, q3, q4, q5, rfl, q6⟩⟩⟩
theorem JH {G : List (Nat × Obj)} (hG : zO G) (a : List UInt8) (b : List UInt8) (ha : Yx 140 a) (hc : Yx 140 b) (hp : zo b ≠ 0) : zu Tryz.prog G 66 [.str a, .str b] (.tup 2 (zw [.str (zW (zo a / zo b)), .i 0])) :=
 zv (T := GA G) (an := .auto) mixed (O8 hG) (Eq.mp (by kernel_rfl) (L9 G a b ha hc hp))
structure X7 (a b : zj) : Prop where
 fa : Yx 140 a
 fb : Yx 140 b
 ne : zo b ≠ 0
def s7 := TR X7 (GZ (· / ·))
theorem pm {G : List (Nat × Obj)} (hG : zO G) : zP Tryz.prog G 66 s7 := PW fun a b h => JH hG a b h.1 h.2 h.3
end Go.Te

namespace Go.Te
open Go Go.Sx Go.Proofs Go.Ar Go.RowKit
set_option maxRecDepth 100000
set_option maxHeartbeats 4000000
def P7 : List AV → Option (List zN × AV)
 | [.v (.int .i64 n), .v (.int .i64 d)] => some ([.p (-10000000000000000 ≤ n ∧ n ≤ 10000000000000000), .p (0 < d ∧ d ≤ 10000000000000000)], .tup 2 (zw [.str (Zj n d.toNat), .i 0]))
 | _ => none
theorem Jz (G : List (Nat × Obj)) (n : Int) (d : Int) (hn : -10000000000000000 ≤ n ∧ n ≤ 10000000000000000) (hd : 0 < d ∧ d ≤ 10000000000000000) :
 ZY [aI n, aI d] → zZ (d == iZ) (j2 ∧ (True ∧ bA #[] = Zj n (Int.toNat d)) ∧ kI ∧ (12 : Int) = iZ) (zZ (d == iO) ((iN ≤ n ∧ n ≤ iX) ∧ j2 ∧ (True ∧ Lib.itoa n = Zj n (Int.toNat d)) ∧ kI ∧ iZ = iZ) ((iN ≤ n ∧ n ≤ iX) ∧ (iN ≤ d ∧ d ≤
 iX) ∧ Zq (Lib.itoa n) = iZ ∧ Zq (Lib.itoa d) = iZ ∧ zY (Lib.itoa d) ≠ iZ ∧ j2 ∧ (True ∧ xU (zY (Lib.itoa n)) (zY (Lib.itoa d)) = Zj n (Int.toNat d)) ∧ kI ∧ iZ = iZ)) := by
 delta bA kI j2 iZ iO iX iN aI
 intro hb
 simp only [sS, dS]
 have key : ∀ m : Int, m.natAbs ≤ 10000000000000000 → Zq (Lib.itoa m) = 0 := fun m hm => by
  rw [YT]
  exact xg (k := 17) (Nat.lt_of_le_of_lt hm (by decide)) (by decide) (by decide)
 have hs : xU (zY (Lib.itoa n)) (zY (Lib.itoa d)) = Zj n d.toNat := by
  rw [(zC n).2, (zC d).2]
  unfold xU
  rw [show zG d 0 = false from Bool.eq_false_iff.2 fun e => by have := (zp _ _).1 e; omega]; rfl
 rw [hs]
 exact ⟨fun h => by omega, fun _ => ⟨fun h => ⟨⟨by omega, by omega⟩, rfl, by rw [h]; exact nY.symm⟩, fun _ => ⟨⟨by omega, by omega⟩, ⟨by omega, by omega⟩, key n (by omega), key d (by omega), by rw [(zC d).2]; omega, rfl, rfl⟩⟩⟩
theorem Hv {G : List (Nat × Obj)} (hG : zO G) (n : Int) (d : Int) (hn : -10000000000000000 ≤ n ∧ n ≤ 10000000000000000) (hd : 0 < d ∧ d ≤ 10000000000000000) : zu Tryz.prog G 50 [.i n, .i d] (.tup 2 (zw [.str (Zj n d.toNat), .i 0])) :=
 zv (T := (KL G).plus 79 VJ) (an := .auto) mixed (zz.plus (YD hG) (sj hG)) (Eq.mp (by kernel_rfl) (Jz G n d hn hd))
theorem jl {G : List (Nat × Obj)} (hG : zO G) : zP Tryz.prog G 50 P7 := by
 intro xs ps r h hp
 unfold P7 at h
 split at h
 ·skip
  rename_i n d
  cases h
  obtain ⟨q0, q1, -⟩ := Zo hp
  exact weaken (ys := [.i n, .i d]) ⟨zV _, zV _, trivial⟩ (Hv hG n d q0 q1)
 ·cases h
def pH : List AV → Option (List zN × AV)
 | [.v (.int .u64 x)] => some ([.p (0 ≤ x ∧ x ≤ 18446744073709551615)], .i (Lib.bitLen x.toNat))
 | _ => none
theorem JQ : zP Tryz.prog [] 88 pH := by
 intro xs ps r h hp
 unfold pH at h
 split at h
 ·rename_i x
  cases h
  have q : 0 ≤ x ∧ x ≤ 18446744073709551615 := hp _ List.mem_cons_self
  refine ⟨enters_of Tryz.func88 (by kernel_rfl) rfl, fun w S vals hS hg hr => ?_⟩
  match vals, hr with
  | [v], ⟨hv, _⟩ =>
  obtain rfl := Zr hv
  refine (Tryz.bits_Len x w q.1 q.2).mono ?_
  rintro e w' ⟨rfl, rfl⟩
  exact ⟨⟨Below.refl _ _, Nat.le_refl _⟩, _, rfl, .v _⟩
 ·cases h
theorem jM : ∀ (f x : Nat), x < 2 ^ f → x < 2 ^ Lib.bitLenAux f x ∧ (x ≠ 0 → 2 ^ Lib.bitLenAux f x ≤ 2 * x) ∧ (x = 0 → Lib.bitLenAux f x = 0)
 | 0, x, h => by
  have : x = 0 := by simpa using h
  subst this
  exact ⟨by decide, fun h => absurd rfl h, fun _ => rfl⟩
 | f + 1, x, h => by
  unfold Lib.bitLenAux
  split
  ·rename_i h0
   exact ⟨by rw [h0]; decide, fun h1 => absurd h0 h1, fun _ => rfl⟩
  ·rename_i h0
   obtain ⟨h1, h2, h3⟩ := jM f (x / 2) (by rw [Nat.pow_succ] at h; omega)
   rw [Nat.pow_add]
   refine ⟨by omega, fun _ => ?_, fun e => absurd e h0⟩
   by_cases hx : x / 2 = 0
   ·rw [h3 hx]; omega
   ·have := h2 hx
    omega
theorem Gy {x : Nat} (h0 : x ≠ 0) (h : x ≤ 1000000000000000000) : x < 2 ^ Lib.bitLen x ∧ Lib.bitLen x ≤ 60 := by
 obtain ⟨h1, h2, _⟩ := jM 64 x (Nat.lt_of_le_of_lt h (by decide))
 refine ⟨h1, Nat.le_of_not_lt fun hl => ?_⟩
 have := h2 h0
 have h3 : 2 ^ 61 ≤ 2 ^ Lib.bitLenAux 64 x := Nat.pow_le_pow_right (by omega) hl
 have h4 : 2 ^ 61 = 2305843009213693952 := by decide
 omega
def mE (n : Int) : yQ :=
 .two .auto (.two .auto (.two .auto (.one (.loop Nat (fun σ z => [(0, σ.tm 0), (3, .i (z : Int))]) (fun σ z => []) 0 (fun σ z => 0 < z ∧ z ≤ 4294967296 ∧ n.toNat < (z + 1) * (z + 1)) (fun σ z => z) .auto))))
def uk : List AV → Option (List zN × AV)
 | [.v (.int .i64 n)] => some ([.p (0 ≤ n ∧ n ≤ 1000000000000000000)], .i (yB n.toNat : Int))
 | _ => none
theorem lW (n : Int) (h : 0 ≤ n ∧ n ≤ 1000000000000000000) :
 ZY [aI n] → zZ (zG n (2 : Int)) (kI ∧ n = (cI (yB (Int.toNat n)))) (bF (DB.db (yc IntKind.u64 n)) ((iZ ≤ n ∧ n ≤ (18446744073709551615 : Int)) ∧ bF (dK ((cI (Lib.bitLen (Int.toNat n))) + iO)) (bF (DB.db (yc .i64 (Int.tdiv ((cI (Lib.bitLen (Int.toNat n))) + iO) (2 : Int)))) ((∃ (z : Nat), ((0 < z ∧ z ≤ 4294967296 ∧ Int.toNat n < (z + 1) * (z + 1)) ∧ (kI ∧ n = n) ∧ kI ∧ IntKind.wrap IntKind.i64 (iO * (2 : Int) ^ min (Int.toNat (Int.tdiv ((cI (Lib.bitLen
 (Int.toNat n))) + iO) (2 : Int))) 64) = (cI z)) ∧ True) ∧ ∀ (z : Nat), 0 < z ∧ z ≤ 4294967296 ∧ Int.toNat n < (z + 1) * (z + 1) → bF (DB.db ((cI z) ≠ iZ)) (bF (dK (Int.tdiv n (cI z))) (bF (dK ((cI z) + Int.tdiv n (cI z))) (bF (dK (Int.tdiv ((cI z) + Int.tdiv n (cI z)) (2 : Int))) (zZ (leB (cI z) (Int.tdiv ((cI z) + Int.tdiv n (cI z)) (2 : Int))) (kI ∧ (cI z) = (cI (yB (Int.toNat n)))) (∃ (z' : Nat), (((0 < z' ∧ z' ≤ 4294967296 ∧ Int.toNat n < (z' +
 1) * (z' + 1)) ∧ z' < z) ∧ (kI ∧ n = n) ∧ kI ∧ Int.tdiv ((cI z) + Int.tdiv n (cI z)) (2 : Int) = (cI z')) ∧ True))))))))) := by
 delta bF dK cI kI iZ iO aI
 intro hb
 simp only [sS, dS]
 obtain ⟨m, rfl⟩ : ∃ m : Nat, n = m := ⟨n.toNat, by omega⟩
 rw [Int.toNat_natCast]
 refine ⟨fun hs => ?_, fun hs => ?_⟩
 ·have : m = 0 ∨ m = 1 := by omega
  rcases this with rfl | rfl <;> decide +kernel
 obtain ⟨b1, b2⟩ := Gy (x := m) (by omega) (by omega)
 have hm64 : m < 18446744073709551616 := by omega
 obtain ⟨s1, s2⟩ := xO hm64
 have hk : ((Lib.bitLen m : Int) + 1).tdiv 2 = (((Lib.bitLen m + 1) / 2 : Nat) : Int) := by
  rw [Int.tdiv_eq_ediv_of_nonneg (by omega)]; omega
 have hp : 2 ^ ((Lib.bitLen m + 1) / 2) ≤ 2 ^ 31 := Nat.pow_le_pow_right (by omega) (by omega)
 have hp2 : 2 ^ Lib.bitLen m ≤ 2 ^ ((Lib.bitLen m + 1) / 2) * 2 ^ ((Lib.bitLen m + 1) / 2) := by
  rw [← Nat.pow_add]
  exact Nat.pow_le_pow_right (by omega) (by omega)
 have hp0 : 0 < 2 ^ ((Lib.bitLen m + 1) / 2) := Nat.pow_pos (by omega)
 have h31 : 2 ^ 31 = 2147483648 := by decide
 rw [hk, Int.toNat_natCast, show min ((Lib.bitLen m + 1) / 2) 64 = (Lib.bitLen m + 1) / 2 by omega, Int.one_mul, show ((2 : Int) ^ ((Lib.bitLen m + 1) / 2)) = ((2 ^ ((Lib.bitLen m + 1) / 2) : Nat) : Int) by rw [Int.natCast_pow]; rfl]
 generalize 2 ^ ((Lib.bitLen m + 1) / 2) = z0 at *
 refine ⟨by simp only [yc]; omega, ⟨by omega, by omega⟩, by simp only [yc]; omega, by simp only [yc]; omega, ⟨z0, ⟨hp0, by omega, ?_⟩, ?_⟩, fun z ⟨z1, z2, z3⟩ => ?_⟩
 ·have : (z0 + 1) * (z0 + 1) = z0 * z0 + 2 * z0 + 1 := by grind
  omega
 ·rw [wy (by simp only [yc]; omega)]
 have e1 : (m : Int).tdiv (z : Int) = ((m / z : Nat) : Int) := by rw [Int.tdiv_eq_ediv_of_nonneg (by omega), Int.natCast_ediv]
 have hml : m / z ≤ m := Nat.div_le_self _ _
 have g1 := PS (n := m) (r := z) (s := yB m) z1 s1
 have g2 := TC (n := m) (r := z) z1
 have hs0 : 0 < yB m := Nat.pos_of_ne_zero fun e => by rw [e] at s2; omega
 rw [e1]
 generalize m / z = q at *
 have e2 : ((z : Int) + (q : Int)).tdiv 2 = (((z + q) / 2 : Nat) : Int) := by rw [Int.tdiv_eq_ediv_of_nonneg (by omega)]; omega
 rw [e2]
 refine ⟨by omega, by simp only [yc]; omega, by simp only [yc]; omega, by simp only [yc]; omega, fun h => ?_, fun h => ⟨(z + q) / 2, ⟨⟨by omega, by omega, ?_⟩, by omega⟩, rfl⟩⟩
 ·rw [lQ hm64 (g2 (by omega)) z3]
 ·exact Nat.lt_of_lt_of_le s2 (Nat.mul_le_mul (by omega) (by omega))
theorem Lt (n : Int) (h : 0 ≤ n ∧ n ≤ 1000000000000000000) : zu Tryz.prog [] 166 [.i n] (.i (yB n.toNat : Int)) :=
 zv (T := T0.plus 88 pH) (an := mE n) mixed (zz.plus zq JQ) (Eq.mp (by kernel_rfl) (lW n h))
theorem PR : zP Tryz.prog [] 166 uk := by
 intro xs ps r h hp
 unfold uk at h
 split at h
 ·skip
  rename_i n
  cases h
  obtain ⟨q0, -⟩ := Zo hp
  exact weaken (ys := [.i n]) ⟨zV _, trivial⟩ (Lt n q0)
 ·cases h
theorem kU : ∀ i ∈ List.range 25, Zy (strOf (zL.getD i undef)) = true ∧ zY (strOf (zL.getD i undef)) = (ZH.getD i 0 : Int) ∧ (strOf (zL.getD i undef)).length ≤ 18 := by decide
theorem o9 : ∀ z ∈ List.range 25, ZH.take (z + 1) = ZH.take z ++ [ZH.getD z 0] ∧ 2 ≤ ZH.getD z 0 ∧ ZH.getD z 0 < 98 := by decide
noncomputable def Gc (G : List (Nat × Obj)) : Tb := (((KL G).plus 145 Vd).plus 166 uk).plus 50 P7
theorem OQ {G : List (Nat × Obj)} (hG : zO G) : zz Tryz.prog (Gc G) := zz.plus (zz.plus (zz.plus (YD hG) (zP.mono sL)) (zP.mono PR)) (jl hG)
def rM (m : Nat) (z : Nat) : Nat × Nat := yr (ZH.take z) (1, m)
def nl (m : Nat) : yQ :=
 .two .auto (.two .auto (.two (.two .auto (.one (.loop Nat (fun σ z => [(1, σ.tm 1), (18, σ.tm 18), (6, .i ((rM m z).1 : Int)), (7, .i ((rM m z).2 : Int)), (19, .i (z : Int))]) (fun σ z => []) 0 (fun σ z => z ≤ 25) (fun σ z => 25 - z) (.two .auto (.two .auto (.two (.one (.two .auto (.two .auto (.one (.loop (Nat × Nat) (fun σ z => [(1, σ.tm 1), (10, σ.tm 10), (18, σ.tm 18), (19, σ.tm 19), (6, .i (z.1 : Int)), (7, .i (z.2 : Int))]) (fun σ z => []) 0 (fun σ z => 0 < z.1 ∧ 0 < z.2 ∧ z.1 * z.1 * z.2 = m ∧ strip (AV.int (σ.tm 10)).toNat z = rM m ((AV.int (σ.tm 19)).toNat + 1)) (fun σ z => z.2) .auto))))) .auto)))))) .auto))
theorem M1 (t : TypeId) (fr : Nat × Nat) (G : List (Nat × Obj)) (n d : Int) (hn : 0 < n) (hd : 0 < d ∧ d ≤ 10000000000000000) (hm : n * d ≤ 100000000000000000) :
 let q1 := (25 = 25 ∧ (((((((((((((((((((((((strOf (Array.getD zL (nat_lit 0) undef) = strOf (Array.getD zL (nat_lit 0) undef) ∧ strOf (Array.getD zL (nat_lit 1) undef) = strOf (Array.getD zL (nat_lit 1) undef)) ∧ strOf (Array.getD zL (nat_lit 2) undef) = strOf (Array.getD zL (nat_lit 2) undef)) ∧ strOf (Array.getD zL (nat_lit 3) undef) = strOf (Array.getD zL (nat_lit 3) undef)) ∧ strOf (Array.getD zL (nat_lit 4) undef) = strOf (Array.getD zL (nat_lit 4) undef)) ∧ strOf (Array.getD zL (nat_lit 5) undef) = strOf (Array.getD zL (nat_lit
 5) undef)) ∧ strOf (Array.getD zL (nat_lit 6) undef) = strOf (Array.getD zL (nat_lit 6) undef)) ∧ strOf (Array.getD zL (nat_lit 7) undef) = strOf (Array.getD zL (nat_lit 7) undef)) ∧ strOf (Array.getD zL (nat_lit 8) undef) = strOf (Array.getD zL (nat_lit 8) undef)) ∧ strOf (Array.getD zL (nat_lit 9) undef) = strOf (Array.getD zL (nat_lit 9) undef)) ∧ strOf (Array.getD zL (nat_lit 10) undef) = strOf (Array.getD zL (nat_lit 10) undef)) ∧ strOf (Array.getD zL (nat_lit 11) undef) = strOf (Array.getD zL (nat_lit 11) undef)) ∧ strOf
 (Array.getD zL (nat_lit 12) undef) = strOf (Array.getD zL (nat_lit 12) undef)) ∧ strOf (Array.getD zL (nat_lit 13) undef) = strOf (Array.getD zL (nat_lit 13) undef)) ∧ strOf (Array.getD zL (nat_lit 14) undef) = strOf (Array.getD zL (nat_lit 14) undef)) ∧ strOf (Array.getD zL (nat_lit 15) undef) = strOf (Array.getD zL (nat_lit 15) undef)) ∧ strOf (Array.getD zL (nat_lit 16) undef) = strOf (Array.getD zL (nat_lit 16) undef)) ∧ strOf (Array.getD zL (nat_lit 17) undef) = strOf (Array.getD zL (nat_lit 17) undef)) ∧ strOf (Array.getD zL
 (nat_lit 18) undef) = strOf (Array.getD zL (nat_lit 18) undef)) ∧ strOf (Array.getD zL (nat_lit 19) undef) = strOf (Array.getD zL (nat_lit 19) undef)) ∧ strOf (Array.getD zL (nat_lit 20) undef) = strOf (Array.getD zL (nat_lit 20) undef)) ∧ strOf (Array.getD zL (nat_lit 21) undef) = strOf (Array.getD zL (nat_lit 21) undef)) ∧ strOf (Array.getD zL (nat_lit 22) undef) = strOf (Array.getD zL (nat_lit 22) undef)) ∧ strOf (Array.getD zL (nat_lit 23) undef) = strOf (Array.getD zL (nat_lit 23) undef)) ∧ strOf (Array.getD zL (nat_lit 24) undef)
 = strOf (Array.getD zL (nat_lit 24) undef)); let q14 := (iZ < d ∧ d ≤ (10000000000000000 : Int)); let q15 := (cI (Prod.fst (nrm (Int.toNat (n * d))))); let q16 := (cI (Prod.snd (nrm (Int.toNat (n * d))))); ZY [aI n, aI d] → bF (dK (n * d)) ((∃ (z : Nat), (z ≤ 25 ∧ (kI ∧ d = d) ∧ q1 ∧ (kI ∧ iO = (cI (Prod.fst (rM (Int.toNat (n * d)) z)))) ∧ (kI ∧ n * d = (cI (Prod.snd (rM (Int.toNat (n * d)) z)))) ∧ kI ∧ iZ = (cI z)) ∧ True) ∧ ∀
 (z : Nat), let q2 := (strOf (Array.getD zL (Int.toNat (cI z)) undef)); let q3 := (Int.toNat (AV.int (aI (zY q2)))); let q4 := (Int.toNat (AV.int (aI (cI z))) + 1); let q5 := (kI ∧ zY q2 = zY q2); let q6 := (kI ∧ (cI z) = (cI z)); let q7 := (cI (Prod.fst (rM (Int.toNat (n * d)) z))); let q8 := (cI (Prod.snd (rM (Int.toNat (n * d)) z))); let q10 := (zY q2 * zY q2); let q9 := (dK q10); let q11 := (DB.db (zY q2 * zY q2 ≠ iZ)); let q12 := (↑(yB (Int.toNat q8)) :
 Int); let q13 := (q7 * q12); z ≤ 25 → zZ (zG (cI z) (25 : Int)) (bF (DB.db (iZ ≤ (cI z) ∧ (cI z) < (↑25 : Int))) (bF (Zy q2) (lN q2 ≤ 18 ∧ (∃ (z_1 : Nat × Nat), ((0 < Prod.fst z_1 ∧ 0 < Prod.snd z_1 ∧ Prod.fst z_1 * Prod.fst z_1 * Prod.snd z_1 = Int.toNat (n * d) ∧ strip q3 z_1 = rM (Int.toNat (n * d)) q4) ∧ (kI ∧ d = d) ∧ q5 ∧ q1 ∧ q6 ∧ (kI ∧ q7 = (cI (Prod.fst z_1))) ∧ kI ∧ q8 = (cI (Prod.snd z_1))) ∧ True) ∧ ∀ (z_1 : Nat × Nat), 0 < Prod.fst z_1 ∧ 0 < Prod.snd z_1 ∧ Prod.fst z_1 * Prod.fst z_1
 * Prod.snd z_1 = Int.toNat (n * d) ∧ strip q3 z_1 = rM (Int.toNat (n * d)) q4 → bF q9 (bF q11 (zZ (Int.tmod (cI (Prod.snd z_1)) q10 == iZ) (bF (dK ((cI (Prod.fst z_1)) * zY q2)) (bF q9 (bF q11 (bF (dK (Int.tdiv (cI (Prod.snd z_1)) q10)) (∃ (z' : Nat × Nat), (((0 < Prod.fst z' ∧ 0 < Prod.snd z' ∧ Prod.fst z' * Prod.fst z' * Prod.snd z' = Int.toNat (n * d) ∧ strip q3 z' = rM (Int.toNat (n * d)) q4) ∧ Prod.snd z' < Prod.snd z_1) ∧ (kI ∧ d = d) ∧ q5 ∧ q1 ∧ q6 ∧ (kI ∧ (↑(Prod.fst z_1) :
 Int) * zY q2 = (cI (Prod.fst z'))) ∧ kI ∧ Int.tdiv (cI (Prod.snd z_1)) q10 = (cI (Prod.snd z'))) ∧ True))))) (bF (dK ((cI z) + iO)) (∃ (z' : Nat), ((z' ≤ 25 ∧ 25 - z' < 25 - z) ∧ (kI ∧ d = d) ∧ q1 ∧ (kI ∧ (cI (Prod.fst z_1)) = (cI (Prod.fst (rM (Int.toNat (n * d)) z')))) ∧ (kI ∧ (cI (Prod.snd z_1)) = (cI (Prod.snd (rM (Int.toNat (n * d)) z')))) ∧ kI ∧ (cI z) + iO = (cI z')) ∧ True)))))))
 ((iZ ≤ q8 ∧ q8 ≤ (1000000000000000000 : Int)) ∧ bF (dK (q12 * q12)) (zZ (q12 * q12 == q8) (bF (dK q13) (((-10000000000000000 : Int) ≤ q7 * q12 ∧ q7 * q12 ≤ (10000000000000000 : Int)) ∧ q14 ∧ (iN ≤ iO ∧ iO ≤ iX) ∧ j2 ∧ (True ∧ Zj q13 (Int.toNat d) = Zj q15 (Int.toNat d)) ∧ Lib.itoa iO = Lib.itoa q16)) (((-10000000000000000 : Int) ≤ q7 ∧ q7 ≤ (10000000000000000 : Int)) ∧ q14 ∧ (iN ≤ q8 ∧ q8 ≤
 iX) ∧ j2 ∧ (True ∧ Zj q7 (Int.toNat d) = Zj q15 (Int.toNat d)) ∧ Lib.itoa q8 = Lib.itoa q16)))) := by
 delta bF dK cI kI j2 lN iZ iO iX iN aI
 dsimp only
 intro hb
 simp only [sS, dS]
 obtain ⟨N, rfl⟩ : ∃ N : Nat, n = N := ⟨n.toNat, by omega⟩
 obtain ⟨D, rfl⟩ : ∃ D : Nat, d = D := ⟨d.toNat, by omega⟩
 rw [← Int.natCast_mul] at *
 rw [Int.toNat_natCast, Int.toNat_natCast]
 have hm0 : 0 < N * D := Nat.mul_pos (by omega) (by omega)
 generalize N * D = m at *
 have hS : ∀ z, Im (1, m) (rM m z) := fun z => (Y4 (ZH.take z) (1, m) (fun p hp => XN p (List.mem_of_mem_take hp)) Nat.one_pos hm0).1
 have hV : ∀ c l : Nat, 0 < c → 0 < l → c * c * l = m → c ≤ 1000000000 ∧ l ≤ m := fun c l h1 h2 h3 => by
  have h4 : c * c * 1 ≤ c * c * l := Nat.mul_le_mul_left _ h2
  have h5 : 1 * l ≤ c * c * l := Nat.mul_le_mul_right _ (Nat.mul_pos h1 h1)
  exact ⟨Nat.le_of_lt (xj (a := c) (b := 1000000000) (by omega)), by omega⟩
 refine ⟨by simp only [yc]; omega, ⟨0, by omega, rfl, rfl, rfl⟩, fun z hz => ⟨fun hlt => ⟨⟨by omega, hlt⟩, ?_⟩, fun hge => ?_⟩⟩
 ·obtain ⟨p1, p2, p3⟩ := kU z (List.mem_range.2 (by omega))
  obtain ⟨t1, t2, t3⟩ := o9 z (List.mem_range.2 (by omega))
  rw [p1, XF, p2, Int.toNat_natCast]
  obtain ⟨v, ⟨q1, q2⟩, _⟩ := hS z
  have hst : strip (ZH.getD z 0) (rM m z) = rM m (z + 1) := by
   show strip _ (Ar.yr _ _) = Ar.yr _ _
   rw [t1, WA]
  generalize ZH.getD z 0 = p at *
  refine ⟨p3, ⟨rM m z, ⟨q1, q2, by simpa using v, hst⟩, rfl, rfl⟩, fun y ⟨y1, y2, y3, y4⟩ => ?_⟩
  obtain ⟨c, l⟩ := y
  simp only at *
  obtain ⟨b1, b2⟩ := hV c l y1 y2 y3
  have hpp : p * p ≤ 98 * 98 := Nat.mul_le_mul (by omega) (by omega)
  have hpp2 : 2 * 2 ≤ p * p := Nat.mul_le_mul t2 t2
  have e1 : (l : Int).tmod ((p * p : Nat) : Int) = ((l % (p * p) : Nat) : Int) := by rw [Int.tmod_eq_emod_of_nonneg (by omega)]; omega
  have e2 : (l : Int).tdiv ((p * p : Nat) : Int) = ((l / (p * p) : Nat) : Int) := by rw [Int.tdiv_eq_ediv_of_nonneg (by omega), Int.natCast_ediv]
  rw [← Int.natCast_mul, e1, e2]
  have hcp : c * p ≤ 1000000000 * 98 := Nat.mul_le_mul b1 (by omega)
  have hdl : l / (p * p) ≤ l := Nat.div_le_self _ _
  refine ⟨by simp only [yc]; omega, by omega, fun h => ?_, fun h => ⟨by simp only [yc]; omega, z + 1, ⟨by omega, by omega⟩, ?_⟩⟩
  ·have h : l % (p * p) = 0 := by omega
   have hd := Nat.dvd_of_mod_eq_zero h
   have h2 : 0 < l / (p * p) := Nat.div_pos (Nat.le_of_dvd y2 hd) (by omega)
   refine ⟨by rw [← Int.natCast_mul]; simp only [yc]; omega, by simp only [yc]; omega, by omega, by simp only [yc]; omega, (c * p, l / (p * p)), ⟨⟨Nat.mul_pos y1 (by omega), h2, ?_, by rw [← Rk t2 y2 h]; exact y4⟩, WF t2 y2⟩, by rw [Int.natCast_mul], rfl⟩
   obtain ⟨k, rfl⟩ := hd
   simp only
   rw [Nat.mul_div_cancel_left _ (by omega), ← y3]
   grind
  ·rw [pL (by omega)] at y4
   rw [← y4]
   exact ⟨rfl, rfl, by omega⟩
 ·have hz25 : z = 25 := by omega
  subst hz25
  have hN : nrm m = sX (rM m 25) := rfl
  obtain ⟨v, ⟨q1, q2⟩, _⟩ := hS 25
  rw [hN]
  generalize rM m 25 = y at *
  obtain ⟨c, l⟩ := y
  simp only [Nat.one_mul] at *
  obtain ⟨b1, b2⟩ := hV c l q1 q2 v
  obtain ⟨s1, s2⟩ := xO (n := l) (by omega)
  have hr : yB l ≤ 1000000000 := Nat.le_of_lt (xj (a := yB l) (b := 1000000000) (by omega))
  unfold sX
  simp only
  rw [← Int.natCast_mul, ← Int.natCast_mul]
  have hcr : c * yB l * (c * yB l) ≤ m := by
   have e : c * yB l * (c * yB l) = c * c * (yB l * yB l) := by grind
   rw [e, ← v]
   exact Nat.mul_le_mul_left _ s1
  have hcr2 : c * yB l < 1000000000 := xj (by omega)
  refine ⟨⟨by omega, by omega⟩, by simp only [yc]; omega, fun h => ?_, fun h => ?_⟩
  ·rw [if_pos (by omega)]
   exact ⟨by simp only [yc]; omega, ⟨by omega, by omega⟩, hd, ⟨by omega, by omega⟩, rfl, rfl, rfl⟩
  ·rw [if_neg (by omega)]
   exact ⟨⟨by omega, by omega⟩, hd, ⟨by omega, by omega⟩, rfl, rfl, rfl⟩
end Go.Te
