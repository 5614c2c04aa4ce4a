/- rational: what is told of numbers as rational numbers. -/
import Derived.Test.YthbpnknhfokadaaGreatDoorThRc
import Derived.Test.YthbpnknhfokadaaGreatDoorArW
import Derived.Lib.BitFns
set_option linter.unusedSimpArgs false
set_option linter.unusedVariables false
namespace Go.Te
open Go Go.Sx Go.Proofs Go.Ar
set_option maxRecDepth 100000
set_option maxHeartbeats 4000000
theorem MN {k : Nat} {a : zj} (h : YQ k a) (hk : 0 < k) (hk2 : k ≤ 300) : a.length ≤ 700 := by
 obtain ⟨h1, h2, h3⟩ := h.parts
 have a1 : xC (zM a) ≤ k := xR hk h1
 have a2 : Lib.nDigits (zP a) ≤ k := (Zx hk).2 h2
 rw [← X1 (ZT.1 h.1).1]
 unfold YP
 rw [List.length_append, x6]
 have b2 : (bif Nat.beq (zP a) 1 then [] else 47 :: Lib.decDigits (zP a)).length ≤ 301 := by
  cases Nat.beq (zP a) 1 with
  | true => simp
  | false => rw [cond_false, List.length_cons, Lib.decDigits_length]; omega
 split <;> omega
theorem Yx {k : Nat} {a : zj} (h : YQ k a) (hk : 0 < k) (hk2 : k ≤ 300) : a.length ≤ 9223372036854775807 := Nat.le_trans (MN h hk hk2) (by decide)
theorem MX {n d : Int} (hd : d ≠ 0) : Y5 n d = zT ((n : Rat) / (d : Rat)) := by
 unfold Y5
 have e1 : ((d.natAbs : Nat) : Rat) = ((d.natAbs : Int) : Rat) := (Rat.intCast_natCast _).symm
 cases h : zg d 0 with
 | true =>
  have h := (zq _ _).1 h
  rw [cond_true, YK _ (by omega), Rat.mkRat_eq_div]
  congr 1
  rw [show (-d).toNat = d.natAbs by omega, e1, show ((d.natAbs : Nat) : Int) = -d by omega, Rat.intCast_neg, Rat.intCast_neg]
  grind
 | false =>
  have h : ¬ d < 0 := fun e => by rw [(zq _ _).2 e] at h; cases h
  rw [cond_false, YK _ (by omega), Rat.mkRat_eq_div]
  congr 1
  rw [show d.toNat = d.natAbs by omega, e1, show ((d.natAbs : Nat) : Int) = d by omega]
theorem xp {k : Nat} {n : Int} (h : n.natAbs < 10 ^ k) (h0 : 0 < k) (hk : k ≤ 300) : ZN n = 0 := (Zq h0 hk h).2
theorem V1 {j k : Nat} {a b : zj} (ha : YQ j a) (hb : YQ k b) : (zM a * (zP b : Int)).natAbs < 10 ^ (j + k) ∧ (zM b * (zP a : Int)).natAbs < 10 ^ (j + k) ∧ (zM a * zM b).natAbs < 10 ^ (j + k) ∧ ((zP a : Int) * (zP b : Int)).natAbs < 10 ^ (j + k) := by
 obtain ⟨a1, a2, a3⟩ := ha.parts
 obtain ⟨b1, b2, b3⟩ := hb.parts
 refine ⟨?_, ?_, ?_, ?_⟩
 ·rw [Int.natAbs_mul, Int.natAbs_natCast]; exact YX a1 b2
 ·rw [Int.natAbs_mul, Int.natAbs_natCast, Nat.mul_comm]; exact YX a2 b1
 ·rw [Int.natAbs_mul]; exact YX a1 b1
 ·rw [← Int.natCast_mul, Int.natAbs_natCast]; exact YX a2 b2
theorem j5 {u v w k : Nat} (h1 : u < 10 ^ k) (h2 : v < 10 ^ k) (h : w ≤ u + v) : w < 10 ^ (k + 1) := by
 rw [Nat.pow_succ]; omega
theorem JK {f : Int → Int → Int} (hf : ∀ u v, (f u v).natAbs ≤ u.natAbs + v.natAbs) {a b : zj} (ha : YQ 140 a) (hb : YQ 140 b) : Ub f a b = 0 ∧ Qi f a b = zT (mkRat (f (zM a * (zP b : Int)) (zM b * (zP a : Int))) (zP a * zP b)) := by
 obtain ⟨m1, m2, m3, m4⟩ := V1 ha hb
 have m5 := j5 m1 m2 (hf (zM a * (zP b : Int)) (zM b * (zP a : Int)))
 have e : Ub f a b = 0 := by
  unfold Ub vM ki
  rw [ha.1, hb.1, xp m1 (by decide) (by decide), xp m2 (by decide) (by decide), xp m5 (by omega) (by omega), xp m4 (by decide) (by decide)]
  rfl
 refine ⟨e, ?_⟩
 unfold Qi
 rw [e]
 show ZX _ _ = _
 rw [YK _ (Nat.mul_pos ha.parts.2.2 hb.parts.2.2)]; rfl
def tt (c : zj → zj → Prop) (r : zj → zj → AV) : List AV → Option (List zn × AV)
 | [.str a, .str b] => some ([.p (c a b)], r a b)
 | _ => none
theorem QF {P : Program} {G : List (Nat × Obj)} {f : FuncId} {c : zj → zj → Prop} {r : zj → zj → AV} (h : ∀ a b, c a b → zt P G f [.str a, .str b] (r a b)) : zp P G f (tt c r) := by
 intro xs ps r' e hp
 unfold tt at e
 split at e
 ·cases e
  exact h _ _ (hp _ List.mem_cons_self)
 ·cases e
structure oN (k : Nat) (a b : zj) : Prop where
 fa : YQ k a
 fb : YQ k b
abbrev Im (f : Rat → Rat → Rat) (a b : zj) : AV := .tup 2 (zw [.str (zT (f (ze a) (ze b))), .i 0])
def NJ := tt (oN 140) (Im (· + ·))
theorem JW {G : List (Nat × Obj)} (hG : zo G) : zp Tryz.prog G 30 NJ := QF fun a b h => by
 have := Jy hG a b (Yx h.1 (by decide) (by decide)) (Yx h.2 (by decide) (by decide))
 obtain ⟨e1, e2⟩ := JK (f := fun x y => x + y) (fun u v => by omega) h.1 h.2
 rw [e1, e2, MU h.1.parts.2.2 h.2.parts.2.2] at this
 exact this
def UJ := tt (oN 140) (Im (· * ·))
theorem sX {G : List (Nat × Obj)} (hG : zo G) : zp Tryz.prog G 40 UJ := QF fun a b h => by
 have := Kb hG a b (Yx h.1 (by decide) (by decide)) (Yx h.2 (by decide) (by decide))
 obtain ⟨m1, m2, m3, m4⟩ := V1 h.1 h.2
 have e1 : tY a b = 0 := by
  unfold tY
  rw [h.1.1, h.2.1, xp m3 (by decide) (by decide), xp m4 (by decide) (by decide)]
  rfl
 have e2 : pz a b = zT (ze a * ze b) := by
  unfold pz
  rw [e1]
  show ZX _ _ = _
  rw [YK _ (Nat.mul_pos h.1.parts.2.2 h.2.parts.2.2), Mt]
 rw [e1, e2] at this
 exact this
def WA (p q : Rat) : Int := if p < q then -1 else if p = q then 0 else 1
theorem nt {a b : zj} (ha : zh a = 0) (hb : zh b = 0) : xr (zM a * (zP b : Int)) (zM b * (zP a : Int)) = WA (ze a) (ze b) := by
 have h1 : ze a < ze b ↔ zM a * (zP b : Int) < zM b * (zP a : Int) := by rw [Rat.lt_iff, (ZB ha).1, (ZB ha).2, (ZB hb).1, (ZB hb).2]
 have h2 : ze a = ze b ↔ zM a * (zP b : Int) = zM b * (zP a : Int) := by rw [Rat.eq_iff_mul_eq_mul, (ZB ha).1, (ZB ha).2, (ZB hb).1, (ZB hb).2]
 unfold xr WA
 generalize zM a * (zP b : Int) = x at *
 generalize zM b * (zP a : Int) = y at *
 by_cases h : x < y
 ·rw [(zq _ _).2 h, if_pos (h1.2 h)]; rfl
 ·rw [show zg x y = false from Bool.eq_false_iff.2 fun e => h ((zq _ _).1 e), if_neg fun e => h (h1.1 e)]
  by_cases h3 : x = y
  ·rw [if_pos (h2.2 h3), h3, beq_self_eq_true]; rfl
  ·rw [if_neg fun e => h3 (h2.1 e), beq_eq_false_iff_ne.2 h3]; rfl
def qC := tt (oN 140) fun a b => .tup 2 (zw [.i (WA (ze a) (ze b)), .i 0])
theorem mP {G : List (Nat × Obj)} (hG : zo G) : zp Tryz.prog G 29 qC := QF fun a b h => by
 have := JP hG a b (Yx h.1 (by decide) (by decide)) (Yx h.2 (by decide) (by decide))
 obtain ⟨m1, m2, m3, m4⟩ := V1 h.1 h.2
 have e1 : vM a b = 0 := by
  unfold vM
  rw [h.1.1, h.2.1, xp m1 (by decide) (by decide), xp m2 (by decide) (by decide)]
  rfl
 have e2 : Ru a b = WA (ze a) (ze b) := by
  unfold Ru
  rw [e1]
  exact nt h.1.1 h.2.1
 rw [e1, e2] at this
 exact this
def Qh (c : zj → Prop) (r : zj → AV) : List AV → Option (List zn × AV)
 | [.str a] => some ([.p (c a)], r a)
 | _ => none
theorem kP {P : Program} {G : List (Nat × Obj)} {f : FuncId} {c : zj → Prop} {r : zj → AV} (h : ∀ a, c a → zt P G f [.str a] (r a)) : zp P G f (Qh c r) := by
 intro xs ps r' e hp
 unfold Qh at e
 split at e
 ·cases e
  exact h _ (hp _ List.mem_cons_self)
 ·cases e
def sA := Qh (YQ 300) fun _ => .i 0
theorem qQ {G : List (Nat × Obj)} (hG : zo G) : zp Tryz.prog G 43 sA := kP fun a h => by
 have := jg hG a (Yx h (by decide) (by decide))
 rw [h.1] at this
 exact this
theorem PX {a : zj} (h : zh a = 0) : zO a = Lib.itoa (ze a).num ∧ yz a = Lib.itoa ((ze a).den : Int) := by
 obtain ⟨v1, v2, v3, v4⟩ := mi h
 rw [(ZB h).1, (ZB h).2, ← v3, ← v4, Yj (yX.1 v1).1, Yj (yX.1 v2).1]
 exact ⟨rfl, rfl⟩
theorem Oh (G : List (Nat × Obj)) (a : List UInt8) (hl : a.length ≤ 9223372036854775807) :
 ZV [AV.str a] → lN a ≤ nX ∧ 3 = lN [AV.junk, AV.junk, AV.junk] ∧ ((True ∧ (bif zh a == iZ then zO a else []) = bif zh a == iZ then zO a else []) ∧ (bif zh a == iZ then yz a else []) = bif zh a == iZ then yz a else []) ∧ kI ∧ zh a = zh a := by
 delta nX kI lN iZ
 intro hb
 simp only [sS, dS]
 exact ⟨hl, rfl⟩
theorem M2 {G : List (Nat × Obj)} (hG : zo G) (a : List UInt8) (hl : a.length ≤ 9223372036854775807) : zt Tryz.prog G 85 [.str a] (.tup 3 (zw [.str (bif zh a == 0 then zO a else []), .str (bif zh a == 0 then yz a else []), .i (zh a)])) :=
 zW (T := (Wm G).plus 57 X9) (an := .auto) mixed (zz.plus zQ (vT hG)) (Eq.mp (by kernel_rfl) (Oh G a hl))
def TH := Qh (YQ 300) fun a => .tup 3 (zw [.str (Lib.itoa (ze a).num), .str (Lib.itoa ((ze a).den : Int)), .i 0])
theorem Rk {G : List (Nat × Obj)} (hG : zo G) : zp Tryz.prog G 85 TH := kP fun a h => by
 have := M2 hG a (Yx h (by decide) (by decide))
 obtain ⟨e1, e2⟩ := PX h.1
 rw [h.1] at this
 simp only [beq_self_eq_true, cond_true] at this
 rw [e1, e2] at this
 exact this
def On : List AV → Option (List zn × AV)
 | [.agg 2 p_x, .agg 2 p_y] => some ([.b (Yc (p_x 0) && Yc (p_x 1)), .b (Yc (p_y 0) && Yc (p_y 1)), .p (UC (⟨AV.int (p_x 0), AV.int (p_x 1)⟩ : Nt)), .p (UC (⟨AV.int (p_y 0), AV.int (p_y 1)⟩ : Nt))], Yh (⟨(⟨AV.int (p_x 0), AV.int (p_x 1)⟩ : Nt).n * (⟨AV.int (p_y 0), AV.int (p_y 1)⟩ : Nt).d, (⟨AV.int (p_x 0), AV.int (p_x 1)⟩ : Nt).d * (⟨AV.int (p_y 0), AV.int (p_y 1)⟩ : Nt).n⟩ : Nt))
 | _ => none
theorem jy (x : Nt) (y : Nt) (h1 : UC x) (h2 : UC y) :
 ZV [AV.agg 2 (zU.enc x), AV.agg 2 (zU.enc y)] → bF (dK (Nt.n x * Nt.d y)) (bF (dK (Nt.d x * Nt.n y)) (2 = 2 ∧ (kI ∧ Nt.n x * Nt.d y = Nt.n (Nt.mk (Nt.n x * Nt.d y) (Nt.d x * Nt.n y))) ∧ kI ∧ Nt.d x * Nt.n y = Nt.d (Nt.mk (Nt.n x * Nt.d y) (Nt.d x * Nt.n y)))) := by
 delta bF dK kI
 intro hb
 simp only [sS, dS]
 unfold UC at h1 h2
 have m1 := YU (a := x.n) (b := y.d) h1.1 ⟨by omega, h2.2.2⟩
 have m3 := YU (a := x.d) (b := y.n) ⟨by omega, h1.2.2⟩ h2.1
 exact ⟨⟨by omega, by omega⟩, ⟨by omega, by omega⟩⟩
theorem ir (x : Nt) (y : Nt) (h1 : UC x) (h2 : UC y) : zt Tryz.prog [] 104 [Yh x, Yh y] (Yh (⟨x.n * y.d, x.d * y.n⟩ : Nt)) :=
 zW (T := T0) (an := .auto) mixed zQ (Eq.mp (by kernel_rfl) (jy x y h1 h2))
theorem J5 : zp Tryz.prog [] 104 On := by
 intro xs ps r h hp
 unfold On at h
 split at h
 ·skip
  rename_i p_x p_y
  cases h
  obtain ⟨q0, q1, q2, q3, -⟩ := ZH hp
  exact weaken (ys := [Yh (⟨AV.int (p_x 0), AV.int (p_x 1)⟩ : Nt), Yh (⟨AV.int (p_y 0), AV.int (p_y 1)⟩ : Nt)]) ⟨Zu (x := .agg 2 p_x) (α := Nt) q0, Zu (x := .agg 2 p_y) (α := Nt) q1, trivial⟩ (ir (⟨AV.int (p_x 0), AV.int (p_x 1)⟩ : Nt) (⟨AV.int (p_y 0), AV.int (p_y 1)⟩ : Nt) q2 q3)
 ·cases h
noncomputable def I0 (G : List (Nat × Obj)) : Tb := (((Wm G).plus 78 WF).plus 79 Vs).body Tryz.prog [(58, .auto)]
theorem pD {G : List (Nat × Obj)} (hG : zo G) : zz Tryz.prog (I0 G) := zz.body mixed (zz.plus (zz.plus zQ (uo hG)) (so hG)) _
def Nl : List AV → Option (List zn × AV)
 | [.agg 2 p_x, .agg 2 p_y] => some ([.b (Zm (p_x 0) && Zm (p_x 1)), .b (Zm (p_y 0) && Zm (p_y 1)), .p (tX (⟨AV.bytes (p_x 0), AV.bytes (p_x 1)⟩ : Pt)), .p (tX (⟨AV.bytes (p_y 0), AV.bytes (p_y 1)⟩ : Pt)), .p (zY (⟨AV.bytes (p_y 0), AV.bytes (p_y 1)⟩ : Pt).n ≠ 0), .p (ZN (zY (⟨AV.bytes (p_x 0), AV.bytes (p_x 1)⟩ : Pt).n * zY (⟨AV.bytes (p_y 0), AV.bytes (p_y 1)⟩ : Pt).d) = 0), .p (ZN (zY (⟨AV.bytes (p_y 0), AV.bytes (p_y 1)⟩ : Pt).n * zY (⟨AV.bytes (p_x 0), AV.bytes (p_x 1)⟩ : Pt).d) = 0)], .tup 2 (zw [.str (Y5 (zY (⟨AV.bytes (p_x 0), AV.bytes (p_x 1)⟩ : Pt).n * zY (⟨AV.bytes (p_y 0), AV.bytes (p_y 1)⟩ : Pt).d) (zY (⟨AV.bytes (p_y 0), AV.bytes (p_y 1)⟩ : Pt).n * zY (⟨AV.bytes (p_x 0), AV.bytes (p_x 1)⟩ : Pt).d)), .i 0]))
 | _ => none
theorem Kj (G : List (Nat × Obj)) (x : Pt) (y : Pt) (h1 : tX x) (h2 : tX y) (h3 : zY y.n ≠ 0) (h4 : ZN (zY x.n * zY y.d) = 0) (h5 : ZN (zY y.n * zY x.d) = 0) :
 let q1 := (True ∧ bA #[] = Y5 (zY (Pt.n x) * zY (Pt.d y)) (zY (Pt.n y) * zY (Pt.d x))); let q2 := (YH (fun (x1 x2 : Int) => x1 * x2) (Pt.n x) (Pt.d y) != iZ); let q3 := (bA #[]); let q4 := (zY q3); let q5 := (yA (fun (x1 x2 : Int) => x1 * x2) (Pt.n x) (Pt.d y)); let q6 := (yA (fun (x1 x2 : Int) => x1 * x2) (Pt.n y) (Pt.d x)); ZV [AV.agg 2 (zU.enc x), AV.agg 2 (zU.enc y)] → zZ (Pt.n y == bA #[(48 : UInt8)]) (j2
 ∧ q1 ∧ kI ∧ (12 : Int) = iZ) (lN (Pt.n x) ≤ nM ∧ lN (Pt.d y) ≤ nM ∧ zZ q2 (zZ q2 (j2 ∧ q1 ∧ kI ∧ YH (fun (x1 x2 : Int) => x1 * x2) (Pt.n x) (Pt.d y) = iZ) (Zs q3 = iZ ∧ Zs q3 = iZ ∧ zY q3 ≠ iZ ∧ j2 ∧ (True ∧ Y5 q4 q4 = Y5 (zY (Pt.n x) * zY (Pt.d y)) (zY (Pt.n y) * zY (Pt.d x))) ∧ kI ∧ iZ = iZ)) (lN (Pt.n y) ≤ nM ∧ lN (Pt.d x) ≤ nM ∧ zZ (YH
 (fun (x1 x2 : Int) => x1 * x2) (Pt.n y) (Pt.d x) != iZ) (j2 ∧ q1 ∧ kI ∧ YH (fun (x1 x2 : Int) => x1 * x2) (Pt.n y) (Pt.d x) = iZ) (Zs q5 = iZ ∧ Zs q6 = iZ ∧ zY q6 ≠ iZ ∧ j2 ∧ (True ∧ Y5 (zY q5) (zY q6) = Y5 (zY (Pt.n x) * zY (Pt.d y)) (zY (Pt.n y) * zY (Pt.d x))) ∧ kI ∧ iZ = iZ))) := by
 delta bA nM kI j2 lN iZ
 dsimp only
 intro hb
 simp only [sS, dS]
 obtain ⟨a1, a2, a3⟩ := h1
 obtain ⟨b1, b2, b3⟩ := h2
 have l1 := (yx a1).2.1
 have l2 := (yx a2).2.1
 have l3 := (yx b1).2.1
 have l4 := (yx b2).2.1
 obtain ⟨p1, p2⟩ := X4 (f := fun x1 x2 => x1 * x2) a1 b2
 obtain ⟨p3, p4⟩ := X4 (f := fun x1 x2 => x1 * x2) b1 a2
 obtain ⟨r1, r2, r3⟩ := we h4
 obtain ⟨r4, r5, r6⟩ := we h5
 rw [p1, p2, p3, p4, h4, h5, r2, r5]
 refine zX.2 ⟨fun c => absurd (by rw [eq_of_beq c]; decide) h3, fun _ => ⟨by omega, by omega, fun h => absurd rfl h, fun _ => ⟨by omega, by omega, fun h => absurd rfl h, fun _ => ⟨r1, r4, Int.mul_ne_zero h3 a3, rfl, rfl⟩⟩⟩⟩
theorem iT {G : List (Nat × Obj)} (hG : zo G) (x : Pt) (y : Pt) (h1 : tX x) (h2 : tX y) (h3 : zY y.n ≠ 0) (h4 : ZN (zY x.n * zY y.d) = 0) (h5 : ZN (zY y.n * zY x.d) = 0) : zt Tryz.prog G 105 [Yh x, Yh y] (.tup 2 (zw [.str (Y5 (zY x.n * zY y.d) (zY y.n * zY x.d)), .i 0])) :=
 zW (T := I0 G) (an := .auto) mixed (pD hG) (Eq.mp (by kernel_rfl) (Kj G x y h1 h2 h3 h4 h5))
theorem Ji {G : List (Nat × Obj)} (hG : zo G) : zp Tryz.prog G 105 Nl := by
 intro xs ps r h hp
 unfold Nl at h
 split at h
 ·skip
  rename_i p_x p_y
  cases h
  obtain ⟨q0, q1, q2, q3, q4, q5, q6, -⟩ := ZH hp
  exact weaken (ys := [Yh (⟨AV.bytes (p_x 0), AV.bytes (p_x 1)⟩ : Pt), Yh (⟨AV.bytes (p_y 0), AV.bytes (p_y 1)⟩ : Pt)]) ⟨Zu (x := .agg 2 p_x) (α := Pt) q0, Zu (x := .agg 2 p_y) (α := Pt) q1, trivial⟩ (iT hG (⟨AV.bytes (p_x 0), AV.bytes (p_x 1)⟩ : Pt) (⟨AV.bytes (p_y 0), AV.bytes (p_y 1)⟩ : Pt) q2 q3 q4 q5 q6)
 ·cases h
noncomputable def Hy (G : List (Nat × Obj)) : Tb := (((((Wm G).plus 57 X9).plus 55 Vt).plus 101 T2).plus 104 On).plus 105 Nl |>.body Tryz.prog [(60, .auto), (62, .auto)]
theorem P2 {G : List (Nat × Obj)} (hG : zo G) : zz Tryz.prog (Hy G) :=
 zz.body mixed (zz.plus (zz.plus (zz.plus (zz.plus (zz.plus zQ (vT hG)) (zp.mono T8)) (Nb hG)) (zp.mono J5)) (Ji hG)) _
theorem Jb {a b : zj} (ha : YQ 140 a) (hb : YQ 140 b) (hp : ze b ≠ 0) : zM b ≠ 0 ∧ (zP a : Int) * zM b ≠ 0 ∧ Y5 (zM a * (zP b : Int)) (zM b * (zP a : Int)) = zT (ze a / ze b) := by
 have h0 : zM b ≠ 0 := fun e => hp (by unfold ze; rw [e]; exact Rat.zero_mkRat _)
 have da := ha.parts.2.2
 have db := hb.parts.2.2
 refine ⟨h0, Int.mul_ne_zero (by omega) h0, ?_⟩
 rw [MX (Int.mul_ne_zero h0 (by omega))]
 congr 1
 unfold ze
 rw [Rat.mkRat_eq_div, Rat.mkRat_eq_div, Rat.intCast_mul, Rat.intCast_mul, Rat.intCast_natCast, Rat.intCast_natCast]
 have e1 : ((zP a : Nat) : Rat) ≠ 0 := fun e => by have := Rat.natCast_eq_zero_iff.1 e; omega
 have e2 : ((zP b : Nat) : Rat) ≠ 0 := fun e => by have := Rat.natCast_eq_zero_iff.1 e; omega
 have e3 : ((zM b : Int) : Rat) ≠ 0 := fun e => h0 (Rat.intCast_eq_zero_iff.1 e)
 grind
theorem LL (G : List (Nat × Obj)) (a : List UInt8) (b : List UInt8) (ha : YQ 140 a) (hc : YQ 140 b) (hp : ze b ≠ 0) :
 let q2 := (True ∧ bA #[] = zT (ze a / ze b)); let q6 := (Value.agg #[Value.string (ByteArray.mk #[]), Value.string (ByteArray.mk #[])]); let q5 := (fun (i : Nat) => if 0 ≤ i ∧ i < 0 + 2 then zw [AV.str (bif zh a == iZ then zO a else []), AV.str (bif zh a == iZ then yz a else [])] (i - 0) else Z0 q6 i); let q4 := (Pt.mk (AV.bytes (q5 0)) (AV.bytes (q5 1))); let q3 := (Pt.n q4); let q7 := (Pt.d q4); let q10 := (fun (i : Nat) => if 0 ≤ i ∧ i < 0 + 2 then zw [AV.str (bif zh b == iZ then zO b else []), AV.str
 (bif zh b == iZ then yz b else [])] (i - 0) else Z0 q6 i); let q9 := (Pt.mk (AV.bytes (q10 0)) (AV.bytes (q10 1))); let q8 := (Pt.n q9); let q11 := (Pt.d q9); let q12 := (zY q3 * zY q11); let q13 := (zY q8 * zY q7); let q1 := (lN a ≤ nX ∧ zZ (zh a != iZ) (j2 ∧ q2 ∧ kI ∧ zh a = iZ) (lN b ≤ nX ∧ zZ (zh b != iZ) (j2 ∧ q2 ∧ kI ∧ zh b = iZ) ((Zs q3 = iZ ∧ Zs q7 = iZ ∧
 zY q7 ≠ iZ) ∧ (Zs q8 = iZ ∧ Zs q11 = iZ ∧ zY q11 ≠ iZ) ∧ zY q8 ≠ iZ ∧ ZN q12 = iZ ∧ ZN q13 = iZ ∧ j2 ∧ (True ∧ Y5 q12 q13 = zT (ze a / ze b)) ∧ kI ∧ iZ = iZ))); let q16 := (Value.agg #[Value.int .i64 iZ, Value.int .i64 iZ]); let q15 := (fun (i : Nat) => if 0 ≤ i ∧ i < 0 + 2 then zw [AV.i (bif z8 a then zM a else iZ), AV.i (bif z8 a then (cI (zP a)) else iZ)] (i - 0) else Z0 q16 i); let q14 := (Nt.mk (AV.int (q15 0))
 (AV.int (q15 1))); let q18 := (fun (i : Nat) => if 0 ≤ i ∧ i < 0 + 2 then zw [AV.i (bif z8 b then zM b else iZ), AV.i (bif z8 b then (cI (zP b)) else iZ)] (i - 0) else Z0 q16 i); let q17 := (Nt.mk (AV.int (q18 0)) (AV.int (q18 1))); let q20 := (Nt.mk (Nt.n q14 * Nt.d q17) (Nt.d q14 * Nt.n q17)); let q19 := (Nt.mk (AV.int (aI (Nt.n q20))) (AV.int (aI (Nt.d q20)))); ZV [AV.str a, AV.str b] → zZ (!b == bA #[(48 : UInt8)]) (lN a ≤ nX ∧ zZ (!z8 a) q1
 (lN b ≤ nX ∧ zZ (!z8 b) q1 ((((-99999999 : Int) ≤ Nt.n q14 ∧ Nt.n q14 ≤ (99999999 : Int)) ∧ iZ < Nt.d q14 ∧ Nt.d q14 ≤ (99999999 : Int)) ∧ (((-99999999 : Int) ≤ Nt.n q17 ∧ Nt.n q17 ≤ (99999999 : Int)) ∧ iZ < Nt.d q17 ∧ Nt.d q17 ≤ (99999999 : Int)) ∧ Nt.d q19 ≠ iZ ∧ ((-1000000000000000000 : Int) ≤ Nt.d q19 ∧ Nt.d q19 ≤ (1000000000000000000 : Int)) ∧ ((-1000000000000000000 : Int) ≤ Nt.n q19 ∧ Nt.n q19 ≤ (1000000000000000000 : Int)) ∧ j2 ∧ (True ∧ Y5 (Nt.n q19) (Nt.d q19) = zT (ze a / ze b)) ∧ IntKind.i64 =
 .i64 ∧ iZ = iZ))) q1 := by
 delta bA nX cI kI j2 lN iZ aI
 dsimp only
 intro hb
 simp only [sS, dS]
 obtain ⟨n0, n1, n2⟩ := Jb ha hc hp
 have h0 : (b == [48]) = false := beq_eq_false_iff_ne.2 fun e => by subst e; exact n0 (by decide)
 have la := Yx ha (by decide) (by decide)
 have lb := Yx hc (by decide) (by decide)
 obtain ⟨m1, m2, m3, m4⟩ := V1 ha hc
 have p1 := VZ ha.1
 have p2 := VZ hc.1
 obtain ⟨_, _, v1, v2⟩ := mi ha.1
 obtain ⟨_, _, v3, v4⟩ := mi hc.1
 have r1 := xp m1 (by decide) (by decide)
 have r2 := xp m2 (by decide) (by decide)
 have q3 : zY (zO b) ≠ 0 := by rw [v3]; exact n0
 have q4 : ZN (zY (zO a) * zY (yz b)) = 0 := by rw [v1, v4]; exact r1
 have q5 : ZN (zY (zO b) * zY (yz a)) = 0 := by rw [v3, v2]; exact r2
 have q6 : Y5 (zY (zO a) * zY (yz b)) (zY (zO b) * zY (yz a)) = zT (ze a / ze b) := by rw [v1, v2, v3, v4]; exact n2
 rw [h0]
 refine zX.2 ⟨fun _ => ⟨la, zX.2 ⟨fun c => ?_, fun c => ⟨lb, zX.2 ⟨fun c2 => ?_, fun c2 => ?_⟩⟩⟩⟩, fun c => by cases c⟩
 rotate_left 2
 ·rw [Bool.not_eq_false'] at c c2
  obtain ⟨a1, a2, a3⟩ := yj c
  obtain ⟨b1, b2, b3⟩ := yj c2
  have w1 := YU (a := zM a) (b := (zP b : Int)) ⟨by omega, by omega⟩ ⟨by omega, by omega⟩
  have w2 := YU (a := (zP a : Int)) (b := zM b) ⟨by omega, by omega⟩ ⟨by omega, by omega⟩
  rw [c, c2]
  simp only [cond_true]
  have w3 : -1000000000000000000 ≤ (zP a : Int) * zM b ∧ (zP a : Int) * zM b ≤ 1000000000000000000 := ⟨by omega, by omega⟩
  have w4 : -1000000000000000000 ≤ zM a * (zP b : Int) ∧ zM a * (zP b : Int) ≤ 1000000000000000000 := ⟨by omega, by omega⟩
  rw [Int.mul_comm (zM b)] at n2
  exact ⟨Tr c, Tr c2, n1, w3, w4, rfl, n2⟩
 all_goals
  rw [ha.1, hc.1]
  exact ⟨la, fun h => absurd rfl h, fun _ => ⟨lb, fun h => absurd rfl h, fun _ => ⟨p1, p2, q3, q4, q5, rfl, q6⟩⟩⟩
theorem jV {G : List (Nat × Obj)} (hG : zo G) (a : List UInt8) (b : List UInt8) (ha : YQ 140 a) (hc : YQ 140 b) (hp : ze b ≠ 0) : zt Tryz.prog G 66 [.str a, .str b] (.tup 2 (zw [.str (zT (ze a / ze b)), .i 0])) :=
 zW (T := Hy G) (an := .auto) mixed (P2 hG) (Eq.mp (by kernel_rfl) (LL G a b ha hc hp))
structure Ix (a b : zj) : Prop where
 fa : YQ 140 a
 fb : YQ 140 b
 ne : ze b ≠ 0
def nu := tt Ix (Im (· / ·))
theorem Kf {G : List (Nat × Obj)} (hG : zo G) : zp Tryz.prog G 66 nu := QF fun a b h => jV hG a b h.1 h.2 h.3
end Go.Te

namespace Go.Te
open Go Go.Sx Go.Proofs Go.Ar Go.RowKit
set_option maxRecDepth 100000
set_option maxHeartbeats 4000000
def NE : List AV → Option (List zn × AV)
 | [.v (.int .i64 n), .v (.int .i64 d)] => some ([.p (-10000000000000000 ≤ n ∧ n ≤ 10000000000000000), .p (0 < d ∧ d ≤ 10000000000000000)], .tup 2 (zw [.str (ZX n d.toNat), .i 0]))
 | _ => none
theorem jo (G : List (Nat × Obj)) (n : Int) (d : Int) (hn : -10000000000000000 ≤ n ∧ n ≤ 10000000000000000) (hd : 0 < d ∧ d ≤ 10000000000000000) :
 ZV [aI n, aI d] → zZ (d == iZ) (j2 ∧ (True ∧ bA #[] = ZX n (Int.toNat d)) ∧ kI ∧ (12 : Int) = iZ) (zZ (d == iO) ((iN ≤ n ∧ n ≤ iX) ∧ j2 ∧ (True ∧ Lib.itoa n = ZX n (Int.toNat d)) ∧ kI ∧ iZ = iZ) ((iN ≤ n ∧ n ≤ iX) ∧ (iN ≤ d ∧ d ≤
 iX) ∧ Zs (Lib.itoa n) = iZ ∧ Zs (Lib.itoa d) = iZ ∧ zY (Lib.itoa d) ≠ iZ ∧ j2 ∧ (True ∧ Y5 (zY (Lib.itoa n)) (zY (Lib.itoa d)) = ZX n (Int.toNat d)) ∧ kI ∧ iZ = iZ)) := by
 delta bA kI j2 iZ iO iX iN aI
 intro hb
 simp only [sS, dS]
 have key : ∀ m : Int, m.natAbs ≤ 10000000000000000 → Zs (Lib.itoa m) = 0 := fun m hm => by
  rw [Yv]
  exact xp (k := 17) (Nat.lt_of_le_of_lt hm (by decide)) (by decide) (by decide)
 have hs : Y5 (zY (Lib.itoa n)) (zY (Lib.itoa d)) = ZX n d.toNat := by
  rw [(zC n).2, (zC d).2]
  unfold Y5
  rw [show zg d 0 = false from Bool.eq_false_iff.2 fun e => by have := (zq _ _).1 e; omega]; rfl
 rw [hs]
 exact ⟨fun h => by omega, fun _ => ⟨fun h => ⟨⟨by omega, by omega⟩, rfl, by rw [h]; exact pM.symm⟩, fun _ => ⟨⟨by omega, by omega⟩, ⟨by omega, by omega⟩, key n (by omega), key d (by omega), by rw [(zC d).2]; omega, rfl, rfl⟩⟩⟩
theorem J4 {G : List (Nat × Obj)} (hG : zo G) (n : Int) (d : Int) (hn : -10000000000000000 ≤ n ∧ n ≤ 10000000000000000) (hd : 0 < d ∧ d ≤ 10000000000000000) : zt Tryz.prog G 50 [.i n, .i d] (.tup 2 (zw [.str (ZX n d.toNat), .i 0])) :=
 zW (T := (oJ G).plus 79 Vs) (an := .auto) mixed (zz.plus (y8 hG) (so hG)) (Eq.mp (by kernel_rfl) (jo G n d hn hd))
theorem Jn {G : List (Nat × Obj)} (hG : zo G) : zp Tryz.prog G 50 NE := by
 intro xs ps r h hp
 unfold NE at h
 split at h
 ·skip
  rename_i n d
  cases h
  obtain ⟨q0, q1, -⟩ := ZH hp
  exact weaken (ys := [.i n, .i d]) ⟨zS _, zS _, trivial⟩ (J4 hG n d q0 q1)
 ·cases h
def qa : List AV → Option (List zn × AV)
 | [.v (.int .u64 x)] => some ([.p (0 ≤ x ∧ x ≤ 18446744073709551615)], .i (Lib.bitLen x.toNat))
 | _ => none
theorem Kr : zp Tryz.prog [] 88 qa := by
 intro xs ps r h hp
 unfold qa at h
 split at h
 ·rename_i x
  cases h
  have q : 0 ≤ x ∧ x ≤ 18446744073709551615 := hp _ List.mem_cons_self
  refine ⟨enters_of Tryz.func88 (by kernel_rfl) rfl, fun w S vals hS hg hr => ?_⟩
  match vals, hr with
  | [v], ⟨hv, _⟩ =>
  obtain rfl := Zr hv
  refine (Tryz.bits_Len x w q.1 q.2).mono ?_
  rintro e w' ⟨rfl, rfl⟩
  exact ⟨⟨Below.refl _ _, Nat.le_refl _⟩, _, rfl, .v _⟩
 ·cases h
theorem km : ∀ (f x : Nat), x < 2 ^ f → x < 2 ^ Lib.bitLenAux f x ∧ (x ≠ 0 → 2 ^ Lib.bitLenAux f x ≤ 2 * x) ∧ (x = 0 → Lib.bitLenAux f x = 0)
 | 0, x, h => by
  have : x = 0 := by simpa using h
  subst this
  exact ⟨by decide, fun h => absurd rfl h, fun _ => rfl⟩
 | f + 1, x, h => by
  unfold Lib.bitLenAux
  split
  ·rename_i h0
   exact ⟨by rw [h0]; decide, fun h1 => absurd h0 h1, fun _ => rfl⟩
  ·rename_i h0
   obtain ⟨h1, h2, h3⟩ := km f (x / 2) (by rw [Nat.pow_succ] at h; omega)
   rw [Nat.pow_add]
   refine ⟨by omega, fun _ => ?_, fun e => absurd e h0⟩
   by_cases hx : x / 2 = 0
   ·rw [h3 hx]; omega
   ·have := h2 hx
    omega
theorem IT {x : Nat} (h0 : x ≠ 0) (h : x ≤ 1000000000000000000) : x < 2 ^ Lib.bitLen x ∧ Lib.bitLen x ≤ 60 := by
 obtain ⟨h1, h2, _⟩ := km 64 x (Nat.lt_of_le_of_lt h (by decide))
 refine ⟨h1, Nat.le_of_not_lt fun hl => ?_⟩
 have := h2 h0
 have h3 : 2 ^ 61 ≤ 2 ^ Lib.bitLenAux 64 x := Nat.pow_le_pow_right (by omega) hl
 have h4 : 2 ^ 61 = 2305843009213693952 := by decide
 omega
def Ni (n : Int) : yW :=
 .two .auto (.two .auto (.two .auto (.one (.loop Nat (fun σ z => [(0, σ.tm 0), (3, .i (z : Int))]) (fun σ z => []) 0 (fun σ z => 0 < z ∧ z ≤ 4294967296 ∧ n.toNat < (z + 1) * (z + 1)) (fun σ z => z) .auto))))
def Va : List AV → Option (List zn × AV)
 | [.v (.int .i64 n)] => some ([.p (0 ≤ n ∧ n ≤ 1000000000000000000)], .i (yc n.toNat : Int))
 | _ => none
theorem Nx (n : Int) (h : 0 ≤ n ∧ n ≤ 1000000000000000000) :
 ZV [aI n] → zZ (zg n (2 : Int)) (kI ∧ n = (cI (yc (Int.toNat n)))) (bF (DB.db (yn IntKind.u64 n)) ((iZ ≤ n ∧ n ≤ (18446744073709551615 : Int)) ∧ bF (dK ((cI (Lib.bitLen (Int.toNat n))) + iO)) (bF (DB.db (yn .i64 (Int.tdiv ((cI (Lib.bitLen (Int.toNat n))) + iO) (2 : Int)))) ((∃ (z : Nat), ((0 < z ∧ z ≤ 4294967296 ∧ Int.toNat n < (z + 1) * (z + 1)) ∧ (kI ∧ n = n) ∧ kI ∧ IntKind.wrap IntKind.i64 (iO * (2 : Int) ^ min (Int.toNat (Int.tdiv ((cI (Lib.bitLen
 (Int.toNat n))) + iO) (2 : Int))) 64) = (cI z)) ∧ True) ∧ ∀ (z : Nat), 0 < z ∧ z ≤ 4294967296 ∧ Int.toNat n < (z + 1) * (z + 1) → bF (DB.db ((cI z) ≠ iZ)) (bF (dK (Int.tdiv n (cI z))) (bF (dK ((cI z) + Int.tdiv n (cI z))) (bF (dK (Int.tdiv ((cI z) + Int.tdiv n (cI z)) (2 : Int))) (zZ (leB (cI z) (Int.tdiv ((cI z) + Int.tdiv n (cI z)) (2 : Int))) (kI ∧ (cI z) = (cI (yc (Int.toNat n)))) (∃ (z' : Nat), (((0 < z' ∧ z' ≤ 4294967296 ∧ Int.toNat n < (z' +
 1) * (z' + 1)) ∧ z' < z) ∧ (kI ∧ n = n) ∧ kI ∧ Int.tdiv ((cI z) + Int.tdiv n (cI z)) (2 : Int) = (cI z')) ∧ True))))))))) := by
 delta bF dK cI kI iZ iO aI
 intro hb
 simp only [sS, dS]
 obtain ⟨m, rfl⟩ : ∃ m : Nat, n = m := ⟨n.toNat, by omega⟩
 rw [Int.toNat_natCast]
 refine ⟨fun hs => ?_, fun hs => ?_⟩
 ·have : m = 0 ∨ m = 1 := by omega
  rcases this with rfl | rfl <;> decide +kernel
 obtain ⟨b1, b2⟩ := IT (x := m) (by omega) (by omega)
 have hm64 : m < 18446744073709551616 := by omega
 obtain ⟨s1, s2⟩ := xY hm64
 have hk : ((Lib.bitLen m : Int) + 1).tdiv 2 = (((Lib.bitLen m + 1) / 2 : Nat) : Int) := by
  rw [Int.tdiv_eq_ediv_of_nonneg (by omega)]; omega
 have hp : 2 ^ ((Lib.bitLen m + 1) / 2) ≤ 2 ^ 31 := Nat.pow_le_pow_right (by omega) (by omega)
 have hp2 : 2 ^ Lib.bitLen m ≤ 2 ^ ((Lib.bitLen m + 1) / 2) * 2 ^ ((Lib.bitLen m + 1) / 2) := by
  rw [← Nat.pow_add]
  exact Nat.pow_le_pow_right (by omega) (by omega)
 have hp0 : 0 < 2 ^ ((Lib.bitLen m + 1) / 2) := Nat.pow_pos (by omega)
 have h31 : 2 ^ 31 = 2147483648 := by decide
 rw [hk, Int.toNat_natCast, show min ((Lib.bitLen m + 1) / 2) 64 = (Lib.bitLen m + 1) / 2 by omega, Int.one_mul, show ((2 : Int) ^ ((Lib.bitLen m + 1) / 2)) = ((2 ^ ((Lib.bitLen m + 1) / 2) : Nat) : Int) by rw [Int.natCast_pow]; rfl]
 generalize 2 ^ ((Lib.bitLen m + 1) / 2) = z0 at *
 refine ⟨by simp only [yn]; omega, ⟨by omega, by omega⟩, by simp only [yn]; omega, by simp only [yn]; omega, ⟨z0, ⟨hp0, by omega, ?_⟩, ?_⟩, fun z ⟨z1, z2, z3⟩ => ?_⟩
 ·have : (z0 + 1) * (z0 + 1) = z0 * z0 + 2 * z0 + 1 := by grind
  omega
 ·rw [wz (by simp only [yn]; omega)]
 have e1 : (m : Int).tdiv (z : Int) = ((m / z : Nat) : Int) := by rw [Int.tdiv_eq_ediv_of_nonneg (by omega), Int.natCast_ediv]
 have hml : m / z ≤ m := Nat.div_le_self _ _
 have g1 := QQ (n := m) (r := z) (s := yc m) z1 s1
 have g2 := Tv (n := m) (r := z) z1
 have hs0 : 0 < yc m := Nat.pos_of_ne_zero fun e => by rw [e] at s2; omega
 rw [e1]
 generalize m / z = q at *
 have e2 : ((z : Int) + (q : Int)).tdiv 2 = (((z + q) / 2 : Nat) : Int) := by rw [Int.tdiv_eq_ediv_of_nonneg (by omega)]; omega
 rw [e2]
 refine ⟨by omega, by simp only [yn]; omega, by simp only [yn]; omega, by simp only [yn]; omega, fun h => ?_, fun h => ⟨(z + q) / 2, ⟨⟨by omega, by omega, ?_⟩, by omega⟩, rfl⟩⟩
 ·rw [oa hm64 (g2 (by omega)) z3]
 ·exact Nat.lt_of_lt_of_le s2 (Nat.mul_le_mul (by omega) (by omega))
theorem LX (n : Int) (h : 0 ≤ n ∧ n ≤ 1000000000000000000) : zt Tryz.prog [] 166 [.i n] (.i (yc n.toNat : Int)) :=
 zW (T := T0.plus 88 qa) (an := Ni n) mixed (zz.plus zQ Kr) (Eq.mp (by kernel_rfl) (Nx n h))
theorem Q8 : zp Tryz.prog [] 166 Va := by
 intro xs ps r h hp
 unfold Va at h
 split at h
 ·skip
  rename_i n
  cases h
  obtain ⟨q0, -⟩ := ZH hp
  exact weaken (ys := [.i n]) ⟨zS _, trivial⟩ (LX n q0)
 ·cases h
theorem Mf : ∀ i ∈ List.range 25, ZZ (strOf (zm.getD i undef)) = true ∧ zY (strOf (zm.getD i undef)) = (yD.getD i 0 : Int) ∧ (strOf (zm.getD i undef)).length ≤ 18 := by decide
theorem Pf : ∀ z ∈ List.range 25, yD.take (z + 1) = yD.take z ++ [yD.getD z 0] ∧ 2 ≤ yD.getD z 0 ∧ yD.getD z 0 < 98 := by decide
noncomputable def I8 (G : List (Nat × Obj)) : Tb := (((oJ G).plus 145 v8).plus 166 Va).plus 50 NE
theorem Pb {G : List (Nat × Obj)} (hG : zo G) : zz Tryz.prog (I8 G) := zz.plus (zz.plus (zz.plus (y8 hG) (zp.mono si)) (zp.mono Q8)) (Jn hG)
def Sn (m : Nat) (z : Nat) : Nat × Nat := yF (yD.take z) (1, m)
def mN (m : Nat) : yW :=
 .two .auto (.two .auto (.two (.two .auto (.one (.loop Nat (fun σ z => [(1, σ.tm 1), (18, σ.tm 18), (6, .i ((Sn m z).1 : Int)), (7, .i ((Sn m z).2 : Int)), (19, .i (z : Int))]) (fun σ z => []) 0 (fun σ z => z ≤ 25) (fun σ z => 25 - z) (.two .auto (.two .auto (.two (.one (.two .auto (.two .auto (.one (.loop (Nat × Nat) (fun σ z => [(1, σ.tm 1), (10, σ.tm 10), (18, σ.tm 18), (19, σ.tm 19), (6, .i (z.1 : Int)), (7, .i (z.2 : Int))]) (fun σ z => []) 0 (fun σ z => 0 < z.1 ∧ 0 < z.2 ∧ z.1 * z.1 * z.2 = m ∧ strip (AV.int (σ.tm 10)).toNat z = Sn m ((AV.int (σ.tm 19)).toNat + 1)) (fun σ z => z.2) .auto))))) .auto)))))) .auto))
theorem oL (t : TypeId) (fr : Nat × Nat) (G : List (Nat × Obj)) (n d : Int) (hn : 0 < n) (hd : 0 < d ∧ d ≤ 10000000000000000) (hm : n * d ≤ 100000000000000000) :
 let q1 := (25 = 25 ∧ (((((((((((((((((((((((strOf (Array.getD zm (nat_lit 0) undef) = strOf (Array.getD zm (nat_lit 0) undef) ∧ strOf (Array.getD zm (nat_lit 1) undef) = strOf (Array.getD zm (nat_lit 1) undef)) ∧ strOf (Array.getD zm (nat_lit 2) undef) = strOf (Array.getD zm (nat_lit 2) undef)) ∧ strOf (Array.getD zm (nat_lit 3) undef) = strOf (Array.getD zm (nat_lit 3) undef)) ∧ strOf (Array.getD zm (nat_lit 4) undef) = strOf (Array.getD zm (nat_lit 4) undef)) ∧ strOf (Array.getD zm (nat_lit 5) undef) = strOf (Array.getD zm (nat_lit
 5) undef)) ∧ strOf (Array.getD zm (nat_lit 6) undef) = strOf (Array.getD zm (nat_lit 6) undef)) ∧ strOf (Array.getD zm (nat_lit 7) undef) = strOf (Array.getD zm (nat_lit 7) undef)) ∧ strOf (Array.getD zm (nat_lit 8) undef) = strOf (Array.getD zm (nat_lit 8) undef)) ∧ strOf (Array.getD zm (nat_lit 9) undef) = strOf (Array.getD zm (nat_lit 9) undef)) ∧ strOf (Array.getD zm (nat_lit 10) undef) = strOf (Array.getD zm (nat_lit 10) undef)) ∧ strOf (Array.getD zm (nat_lit 11) undef) = strOf (Array.getD zm (nat_lit 11) undef)) ∧ strOf
 (Array.getD zm (nat_lit 12) undef) = strOf (Array.getD zm (nat_lit 12) undef)) ∧ strOf (Array.getD zm (nat_lit 13) undef) = strOf (Array.getD zm (nat_lit 13) undef)) ∧ strOf (Array.getD zm (nat_lit 14) undef) = strOf (Array.getD zm (nat_lit 14) undef)) ∧ strOf (Array.getD zm (nat_lit 15) undef) = strOf (Array.getD zm (nat_lit 15) undef)) ∧ strOf (Array.getD zm (nat_lit 16) undef) = strOf (Array.getD zm (nat_lit 16) undef)) ∧ strOf (Array.getD zm (nat_lit 17) undef) = strOf (Array.getD zm (nat_lit 17) undef)) ∧ strOf (Array.getD zm
 (nat_lit 18) undef) = strOf (Array.getD zm (nat_lit 18) undef)) ∧ strOf (Array.getD zm (nat_lit 19) undef) = strOf (Array.getD zm (nat_lit 19) undef)) ∧ strOf (Array.getD zm (nat_lit 20) undef) = strOf (Array.getD zm (nat_lit 20) undef)) ∧ strOf (Array.getD zm (nat_lit 21) undef) = strOf (Array.getD zm (nat_lit 21) undef)) ∧ strOf (Array.getD zm (nat_lit 22) undef) = strOf (Array.getD zm (nat_lit 22) undef)) ∧ strOf (Array.getD zm (nat_lit 23) undef) = strOf (Array.getD zm (nat_lit 23) undef)) ∧ strOf (Array.getD zm (nat_lit 24) undef)
 = strOf (Array.getD zm (nat_lit 24) undef)); let q14 := (iZ < d ∧ d ≤ (10000000000000000 : Int)); let q15 := (cI (Prod.fst (nrm (Int.toNat (n * d))))); let q16 := (cI (Prod.snd (nrm (Int.toNat (n * d))))); ZV [aI n, aI d] → bF (dK (n * d)) ((∃ (z : Nat), (z ≤ 25 ∧ (kI ∧ d = d) ∧ q1 ∧ (kI ∧ iO = (cI (Prod.fst (Sn (Int.toNat (n * d)) z)))) ∧ (kI ∧ n * d = (cI (Prod.snd (Sn (Int.toNat (n * d)) z)))) ∧ kI ∧ iZ = (cI z)) ∧ True) ∧ ∀
 (z : Nat), let q2 := (strOf (Array.getD zm (Int.toNat (cI z)) undef)); let q3 := (Int.toNat (AV.int (aI (zY q2)))); let q4 := (Int.toNat (AV.int (aI (cI z))) + 1); let q5 := (kI ∧ zY q2 = zY q2); let q6 := (kI ∧ (cI z) = (cI z)); let q7 := (cI (Prod.fst (Sn (Int.toNat (n * d)) z))); let q8 := (cI (Prod.snd (Sn (Int.toNat (n * d)) z))); let q10 := (zY q2 * zY q2); let q9 := (dK q10); let q11 := (DB.db (zY q2 * zY q2 ≠ iZ)); let q12 := (↑(yc (Int.toNat q8)) :
 Int); let q13 := (q7 * q12); z ≤ 25 → zZ (zg (cI z) (25 : Int)) (bF (DB.db (iZ ≤ (cI z) ∧ (cI z) < (↑25 : Int))) (bF (ZZ q2) (lN q2 ≤ 18 ∧ (∃ (z_1 : Nat × Nat), ((0 < Prod.fst z_1 ∧ 0 < Prod.snd z_1 ∧ Prod.fst z_1 * Prod.fst z_1 * Prod.snd z_1 = Int.toNat (n * d) ∧ strip q3 z_1 = Sn (Int.toNat (n * d)) q4) ∧ (kI ∧ d = d) ∧ q5 ∧ q1 ∧ q6 ∧ (kI ∧ q7 = (cI (Prod.fst z_1))) ∧ kI ∧ q8 = (cI (Prod.snd z_1))) ∧ True) ∧ ∀ (z_1 : Nat × Nat), 0 < Prod.fst z_1 ∧ 0 < Prod.snd z_1 ∧ Prod.fst z_1 * Prod.fst z_1
 * Prod.snd z_1 = Int.toNat (n * d) ∧ strip q3 z_1 = Sn (Int.toNat (n * d)) q4 → bF q9 (bF q11 (zZ (Int.tmod (cI (Prod.snd z_1)) q10 == iZ) (bF (dK ((cI (Prod.fst z_1)) * zY q2)) (bF q9 (bF q11 (bF (dK (Int.tdiv (cI (Prod.snd z_1)) q10)) (∃ (z' : Nat × Nat), (((0 < Prod.fst z' ∧ 0 < Prod.snd z' ∧ Prod.fst z' * Prod.fst z' * Prod.snd z' = Int.toNat (n * d) ∧ strip q3 z' = Sn (Int.toNat (n * d)) q4) ∧ Prod.snd z' < Prod.snd z_1) ∧ (kI ∧ d = d) ∧ q5 ∧ q1 ∧ q6 ∧ (kI ∧ (↑(Prod.fst z_1) :
 Int) * zY q2 = (cI (Prod.fst z'))) ∧ kI ∧ Int.tdiv (cI (Prod.snd z_1)) q10 = (cI (Prod.snd z'))) ∧ True))))) (bF (dK ((cI z) + iO)) (∃ (z' : Nat), ((z' ≤ 25 ∧ 25 - z' < 25 - z) ∧ (kI ∧ d = d) ∧ q1 ∧ (kI ∧ (cI (Prod.fst z_1)) = (cI (Prod.fst (Sn (Int.toNat (n * d)) z')))) ∧ (kI ∧ (cI (Prod.snd z_1)) = (cI (Prod.snd (Sn (Int.toNat (n * d)) z')))) ∧ kI ∧ (cI z) + iO = (cI z')) ∧ True)))))))
 ((iZ ≤ q8 ∧ q8 ≤ (1000000000000000000 : Int)) ∧ bF (dK (q12 * q12)) (zZ (q12 * q12 == q8) (bF (dK q13) (((-10000000000000000 : Int) ≤ q7 * q12 ∧ q7 * q12 ≤ (10000000000000000 : Int)) ∧ q14 ∧ (iN ≤ iO ∧ iO ≤ iX) ∧ j2 ∧ (True ∧ ZX q13 (Int.toNat d) = ZX q15 (Int.toNat d)) ∧ Lib.itoa iO = Lib.itoa q16)) (((-10000000000000000 : Int) ≤ q7 ∧ q7 ≤ (10000000000000000 : Int)) ∧ q14 ∧ (iN ≤ q8 ∧ q8 ≤
 iX) ∧ j2 ∧ (True ∧ ZX q7 (Int.toNat d) = ZX q15 (Int.toNat d)) ∧ Lib.itoa q8 = Lib.itoa q16)))) := by
 delta bF dK cI kI j2 lN iZ iO iX iN aI
 dsimp only
 intro hb
 simp only [sS, dS]
 obtain ⟨N, rfl⟩ : ∃ N : Nat, n = N := ⟨n.toNat, by omega⟩
 obtain ⟨D, rfl⟩ : ∃ D : Nat, d = D := ⟨d.toNat, by omega⟩
 rw [← Int.natCast_mul] at *
 rw [Int.toNat_natCast, Int.toNat_natCast]
 have hm0 : 0 < N * D := Nat.mul_pos (by omega) (by omega)
 generalize N * D = m at *
 have hS : ∀ z, kA (1, m) (Sn m z) := fun z => (XB (yD.take z) (1, m) (fun p hp => QG p (List.mem_of_mem_take hp)) Nat.one_pos hm0).1
 have hV : ∀ c l : Nat, 0 < c → 0 < l → c * c * l = m → c ≤ 1000000000 ∧ l ≤ m := fun c l h1 h2 h3 => by
  have h4 : c * c * 1 ≤ c * c * l := Nat.mul_le_mul_left _ h2
  have h5 : 1 * l ≤ c * c * l := Nat.mul_le_mul_right _ (Nat.mul_pos h1 h1)
  exact ⟨Nat.le_of_lt (Xk (a := c) (b := 1000000000) (by omega)), by omega⟩
 refine ⟨by simp only [yn]; omega, ⟨0, by omega, rfl, rfl, rfl⟩, fun z hz => ⟨fun hlt => ⟨⟨by omega, hlt⟩, ?_⟩, fun hge => ?_⟩⟩
 ·obtain ⟨p1, p2, p3⟩ := Mf z (List.mem_range.2 (by omega))
  obtain ⟨t1, t2, t3⟩ := Pf z (List.mem_range.2 (by omega))
  rw [p1, Xn, p2, Int.toNat_natCast]
  obtain ⟨v, ⟨q1, q2⟩, _⟩ := hS z
  have hst : strip (yD.getD z 0) (Sn m z) = Sn m (z + 1) := by
   show strip _ (Ar.yF _ _) = Ar.yF _ _
   rw [t1, WN]
  generalize yD.getD z 0 = p at *
  refine ⟨p3, ⟨Sn m z, ⟨q1, q2, by simpa using v, hst⟩, rfl, rfl⟩, fun y ⟨y1, y2, y3, y4⟩ => ?_⟩
  obtain ⟨c, l⟩ := y
  simp only at *
  obtain ⟨b1, b2⟩ := hV c l y1 y2 y3
  have hpp : p * p ≤ 98 * 98 := Nat.mul_le_mul (by omega) (by omega)
  have hpp2 : 2 * 2 ≤ p * p := Nat.mul_le_mul t2 t2
  have e1 : (l : Int).tmod ((p * p : Nat) : Int) = ((l % (p * p) : Nat) : Int) := by rw [Int.tmod_eq_emod_of_nonneg (by omega)]; omega
  have e2 : (l : Int).tdiv ((p * p : Nat) : Int) = ((l / (p * p) : Nat) : Int) := by rw [Int.tdiv_eq_ediv_of_nonneg (by omega), Int.natCast_ediv]
  rw [← Int.natCast_mul, e1, e2]
  have hcp : c * p ≤ 1000000000 * 98 := Nat.mul_le_mul b1 (by omega)
  have hdl : l / (p * p) ≤ l := Nat.div_le_self _ _
  refine ⟨by simp only [yn]; omega, by omega, fun h => ?_, fun h => ⟨by simp only [yn]; omega, z + 1, ⟨by omega, by omega⟩, ?_⟩⟩
  ·have h : l % (p * p) = 0 := by omega
   have hd := Nat.dvd_of_mod_eq_zero h
   have h2 : 0 < l / (p * p) := Nat.div_pos (Nat.le_of_dvd y2 hd) (by omega)
   refine ⟨by rw [← Int.natCast_mul]; simp only [yn]; omega, by simp only [yn]; omega, by omega, by simp only [yn]; omega, (c * p, l / (p * p)), ⟨⟨Nat.mul_pos y1 (by omega), h2, ?_, by rw [← Sc t2 y2 h]; exact y4⟩, Wy t2 y2⟩, by rw [Int.natCast_mul], rfl⟩
   obtain ⟨k, rfl⟩ := hd
   simp only
   rw [Nat.mul_div_cancel_left _ (by omega), ← y3]
   grind
  ·rw [RO (by omega)] at y4
   rw [← y4]
   exact ⟨rfl, rfl, by omega⟩
 ·have hz25 : z = 25 := by omega
  subst hz25
  have hN : nrm m = QS (Sn m 25) := rfl
  obtain ⟨v, ⟨q1, q2⟩, _⟩ := hS 25
  rw [hN]
  generalize Sn m 25 = y at *
  obtain ⟨c, l⟩ := y
  simp only [Nat.one_mul] at *
  obtain ⟨b1, b2⟩ := hV c l q1 q2 v
  obtain ⟨s1, s2⟩ := xY (n := l) (by omega)
  have hr : yc l ≤ 1000000000 := Nat.le_of_lt (Xk (a := yc l) (b := 1000000000) (by omega))
  unfold QS
  simp only
  rw [← Int.natCast_mul, ← Int.natCast_mul]
  have hcr : c * yc l * (c * yc l) ≤ m := by
   have e : c * yc l * (c * yc l) = c * c * (yc l * yc l) := by grind
   rw [e, ← v]
   exact Nat.mul_le_mul_left _ s1
  have hcr2 : c * yc l < 1000000000 := Xk (by omega)
  refine ⟨⟨by omega, by omega⟩, by simp only [yn]; omega, fun h => ?_, fun h => ?_⟩
  ·rw [if_pos (by omega)]
   exact ⟨by simp only [yn]; omega, ⟨by omega, by omega⟩, hd, ⟨by omega, by omega⟩, rfl, rfl, rfl⟩
  ·rw [if_neg (by omega)]
   exact ⟨⟨by omega, by omega⟩, hd, ⟨by omega, by omega⟩, rfl, rfl, rfl⟩
end Go.Te
