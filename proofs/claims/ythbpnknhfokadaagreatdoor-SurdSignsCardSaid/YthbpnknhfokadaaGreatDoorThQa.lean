/- rational: what is told of numbers as rational numbers. -/
import Derived.Test.YthbpnknhfokadaaGreatDoorThRc
import Derived.Test.YthbpnknhfokadaaGreatDoorArW
import Derived.Lib.BitFns
set_option linter.unusedSimpArgs false
set_option linter.unusedVariables false
namespace Go.Te
open Go Go.Sx Go.Proofs Go.Ar
set_option maxRecDepth 100000
set_option maxHeartbeats 4000000
theorem KB {k : Nat} {a : zj} (h : Ym k a) (hk : 0 < k) (hk2 : k ≤ 300) : a.length ≤ 700 := by
 obtain ⟨h1, h2, h3⟩ := h.parts
 have a1 : Xx (zM a) ≤ k := xK hk h1
 have a2 : Lib.nDigits (zP a) ≤ k := (ZX hk).2 h2
 rw [← wv (Zq.1 h.1).1]
 unfold YM
 rw [List.length_append, x7]
 have b2 : (bif Nat.beq (zP a) 1 then [] else 47 :: Lib.decDigits (zP a)).length ≤ 301 := by
  cases Nat.beq (zP a) 1 with
  | true => simp
  | false => rw [cond_false, List.length_cons, Lib.decDigits_length]; omega
 split <;> omega
theorem Yt {k : Nat} {a : zj} (h : Ym k a) (hk : 0 < k) (hk2 : k ≤ 300) : a.length ≤ 9223372036854775807 := Nat.le_trans (KB h hk hk2) (by decide)
theorem L2 {n d : Int} (hd : d ≠ 0) : Y5 n d = zt ((n : Rat) / (d : Rat)) := by
 unfold Y5
 have e1 : ((d.natAbs : Nat) : Rat) = ((d.natAbs : Int) : Rat) := (Rat.intCast_natCast _).symm
 cases h : zg d 0 with
 | true =>
  have h := (zq _ _).1 h
  rw [cond_true, Yg _ (by omega), Rat.mkRat_eq_div]
  congr 1
  rw [show (-d).toNat = d.natAbs by omega, e1, show ((d.natAbs : Nat) : Int) = -d by omega, Rat.intCast_neg, Rat.intCast_neg]
  grind
 | false =>
  have h : ¬ d < 0 := fun e => by rw [(zq _ _).2 e] at h; cases h
  rw [cond_false, Yg _ (by omega), Rat.mkRat_eq_div]
  congr 1
  rw [show d.toNat = d.natAbs by omega, e1, show ((d.natAbs : Nat) : Int) = d by omega]
theorem xh {k : Nat} {n : Int} (h : n.natAbs < 10 ^ k) (h0 : 0 < k) (hk : k ≤ 300) : Zm n = 0 := (ZP h0 hk h).2
theorem uh {j k : Nat} {a b : zj} (ha : Ym j a) (hb : Ym k b) : (zM a * (zP b : Int)).natAbs < 10 ^ (j + k) ∧ (zM b * (zP a : Int)).natAbs < 10 ^ (j + k) ∧ (zM a * zM b).natAbs < 10 ^ (j + k) ∧ ((zP a : Int) * (zP b : Int)).natAbs < 10 ^ (j + k) := by
 obtain ⟨a1, a2, a3⟩ := ha.parts
 obtain ⟨b1, b2, b3⟩ := hb.parts
 refine ⟨?_, ?_, ?_, ?_⟩
 ·rw [Int.natAbs_mul, Int.natAbs_natCast]; exact Ys a1 b2
 ·rw [Int.natAbs_mul, Int.natAbs_natCast, Nat.mul_comm]; exact Ys a2 b1
 ·rw [Int.natAbs_mul]; exact Ys a1 b1
 ·rw [← Int.natCast_mul, Int.natAbs_natCast]; exact Ys a2 b2
theorem Jv {u v w k : Nat} (h1 : u < 10 ^ k) (h2 : v < 10 ^ k) (h : w ≤ u + v) : w < 10 ^ (k + 1) := by
 rw [Nat.pow_succ]; omega
theorem Hs {f : Int → Int → Int} (hf : ∀ u v, (f u v).natAbs ≤ u.natAbs + v.natAbs) {a b : zj} (ha : Ym 140 a) (hb : Ym 140 b) : tF f a b = 0 ∧ pA f a b = zt (mkRat (f (zM a * (zP b : Int)) (zM b * (zP a : Int))) (zP a * zP b)) := by
 obtain ⟨m1, m2, m3, m4⟩ := uh ha hb
 have m5 := Jv m1 m2 (hf (zM a * (zP b : Int)) (zM b * (zP a : Int)))
 have e : tF f a b = 0 := by
  unfold tF Vy jy
  rw [ha.1, hb.1, xh m1 (by decide) (by decide), xh m2 (by decide) (by decide), xh m5 (by omega) (by omega), xh m4 (by decide) (by decide)]
  rfl
 refine ⟨e, ?_⟩
 unfold pA
 rw [e]
 show ZW _ _ = _
 rw [Yg _ (Nat.mul_pos ha.parts.2.2 hb.parts.2.2)]; rfl
def Tr (c : zj → zj → Prop) (r : zj → zj → AV) : List AV → Option (List zn × AV)
 | [.str a, .str b] => some ([.p (c a b)], r a b)
 | _ => none
theorem Pj {P : Program} {G : List (Nat × Obj)} {f : FuncId} {c : zj → zj → Prop} {r : zj → zj → AV} (h : ∀ a b, c a b → zU P G f [.str a, .str b] (r a b)) : zp P G f (Tr c r) := by
 intro xs ps r' e hp
 unfold Tr at e
 split at e
 ·cases e
  exact h _ _ (hp _ List.mem_cons_self)
 ·cases e
structure O9 (k : Nat) (a b : zj) : Prop where
 fa : Ym k a
 fb : Ym k b
abbrev gJ (f : Rat → Rat → Rat) (a b : zj) : AV := .tup 2 (zw [.str (zt (f (zF a) (zF b))), .i 0])
def Mg := Tr (O9 140) (gJ (· + ·))
theorem iy {G : List (Nat × Obj)} (hG : zo G) : zp Tryz.prog G 30 Mg := Pj fun a b h => by
 have := It hG a b (Yt h.1 (by decide) (by decide)) (Yt h.2 (by decide) (by decide))
 obtain ⟨e1, e2⟩ := Hs (f := fun x y => x + y) (fun u v => by omega) h.1 h.2
 rw [e1, e2, Ko h.1.parts.2.2 h.2.parts.2.2] at this
 exact this
def UU := Tr (O9 140) (gJ (· * ·))
theorem rN {G : List (Nat × Obj)} (hG : zo G) : zp Tryz.prog G 40 UU := Pj fun a b h => by
 have := Jw hG a b (Yt h.1 (by decide) (by decide)) (Yt h.2 (by decide) (by decide))
 obtain ⟨m1, m2, m3, m4⟩ := uh h.1 h.2
 have e1 : tE a b = 0 := by
  unfold tE
  rw [h.1.1, h.2.1, xh m3 (by decide) (by decide), xh m4 (by decide) (by decide)]
  rfl
 have e2 : PZ a b = zt (zF a * zF b) := by
  unfold PZ
  rw [e1]
  show ZW _ _ = _
  rw [Yg _ (Nat.mul_pos h.1.parts.2.2 h.2.parts.2.2), kW]
 rw [e1, e2] at this
 exact this
def W3 (p q : Rat) : Int := if p < q then -1 else if p = q then 0 else 1
theorem M1 {a b : zj} (ha : zh a = 0) (hb : zh b = 0) : xS (zM a * (zP b : Int)) (zM b * (zP a : Int)) = W3 (zF a) (zF b) := by
 have h1 : zF a < zF b ↔ zM a * (zP b : Int) < zM b * (zP a : Int) := by rw [Rat.lt_iff, (ZA ha).1, (ZA ha).2, (ZA hb).1, (ZA hb).2]
 have h2 : zF a = zF b ↔ zM a * (zP b : Int) = zM b * (zP a : Int) := by rw [Rat.eq_iff_mul_eq_mul, (ZA ha).1, (ZA ha).2, (ZA hb).1, (ZA hb).2]
 unfold xS W3
 generalize zM a * (zP b : Int) = x at *
 generalize zM b * (zP a : Int) = y at *
 by_cases h : x < y
 ·rw [(zq _ _).2 h, if_pos (h1.2 h)]; rfl
 ·rw [show zg x y = false from Bool.eq_false_iff.2 fun e => h ((zq _ _).1 e), if_neg fun e => h (h1.1 e)]
  by_cases h3 : x = y
  ·rw [if_pos (h2.2 h3), h3, beq_self_eq_true]; rfl
  ·rw [if_neg fun e => h3 (h2.1 e), beq_eq_false_iff_ne.2 h3]; rfl
def qm := Tr (O9 140) fun a b => .tup 2 (zw [.i (W3 (zF a) (zF b)), .i 0])
theorem m7 {G : List (Nat × Obj)} (hG : zo G) : zp Tryz.prog G 29 qm := Pj fun a b h => by
 have := iS hG a b (Yt h.1 (by decide) (by decide)) (Yt h.2 (by decide) (by decide))
 obtain ⟨m1, m2, m3, m4⟩ := uh h.1 h.2
 have e1 : Vy a b = 0 := by
  unfold Vy
  rw [h.1.1, h.2.1, xh m1 (by decide) (by decide), xh m2 (by decide) (by decide)]
  rfl
 have e2 : qt a b = W3 (zF a) (zF b) := by
  unfold qt
  rw [e1]
  exact M1 h.1.1 h.2.1
 rw [e1, e2] at this
 exact this
def Pp (c : zj → Prop) (r : zj → AV) : List AV → Option (List zn × AV)
 | [.str a] => some ([.p (c a)], r a)
 | _ => none
theorem jz {P : Program} {G : List (Nat × Obj)} {f : FuncId} {c : zj → Prop} {r : zj → AV} (h : ∀ a, c a → zU P G f [.str a] (r a)) : zp P G f (Pp c r) := by
 intro xs ps r' e hp
 unfold Pp at e
 split at e
 ·cases e
  exact h _ (hp _ List.mem_cons_self)
 ·cases e
def Se := Pp (Ym 300) fun _ => .i 0
theorem Qw {G : List (Nat × Obj)} (hG : zo G) : zp Tryz.prog G 43 Se := jz fun a h => by
 have := iL hG a (Yt h (by decide) (by decide))
 rw [h.1] at this
 exact this
theorem oe {a : zj} (h : zh a = 0) : zO a = Lib.itoa (zF a).num ∧ yZ a = Lib.itoa ((zF a).den : Int) := by
 obtain ⟨v1, v2, v3, v4⟩ := lf h
 rw [(ZA h).1, (ZA h).2, ← v3, ← v4, YG (yU.1 v1).1, YG (yU.1 v2).1]
 exact ⟨rfl, rfl⟩
theorem nr (G : List (Nat × Obj)) (a : List UInt8) (hl : a.length ≤ 9223372036854775807) :
 Zt [AV.str a] → lN a ≤ nX ∧ 3 = lN [AV.junk, AV.junk, AV.junk] ∧ ((True ∧ (bif zh a == iZ then zO a else []) = bif zh a == iZ then zO a else []) ∧ (bif zh a == iZ then yZ a else []) = bif zh a == iZ then yZ a else []) ∧ kI ∧ zh a = zh a := by
 delta nX kI lN iZ
 intro hb
 simp only [sS, dS]
 exact ⟨hl, rfl⟩
theorem KQ {G : List (Nat × Obj)} (hG : zo G) (a : List UInt8) (hl : a.length ≤ 9223372036854775807) : zU Tryz.prog G 85 [.str a] (.tup 3 (zw [.str (bif zh a == 0 then zO a else []), .str (bif zh a == 0 then yZ a else []), .i (zh a)])) :=
 zW (T := (W2 G).plus 57 wz) (an := .auto) mixed (zz.plus zQ (vN hG)) (Eq.mp (by kernel_rfl) (nr G a hl))
def sP := Pp (Ym 300) fun a => .tup 3 (zw [.str (Lib.itoa (zF a).num), .str (Lib.itoa ((zF a).den : Int)), .i 0])
theorem QQ {G : List (Nat × Obj)} (hG : zo G) : zp Tryz.prog G 85 sP := jz fun a h => by
 have := KQ hG a (Yt h (by decide) (by decide))
 obtain ⟨e1, e2⟩ := oe h.1
 rw [h.1] at this
 simp only [beq_self_eq_true, cond_true] at this
 rw [e1, e2] at this
 exact this
def mt : List AV → Option (List zn × AV)
 | [.agg 2 p_x, .agg 2 p_y] => some ([.b (YA (p_x 0) && YA (p_x 1)), .b (YA (p_y 0) && YA (p_y 1)), .p (te (⟨AV.int (p_x 0), AV.int (p_x 1)⟩ : Nt)), .p (te (⟨AV.int (p_y 0), AV.int (p_y 1)⟩ : Nt))], Yc (⟨(⟨AV.int (p_x 0), AV.int (p_x 1)⟩ : Nt).n * (⟨AV.int (p_y 0), AV.int (p_y 1)⟩ : Nt).d, (⟨AV.int (p_x 0), AV.int (p_x 1)⟩ : Nt).d * (⟨AV.int (p_y 0), AV.int (p_y 1)⟩ : Nt).n⟩ : Nt))
 | _ => none
theorem il (x : Nt) (y : Nt) (h1 : te x) (h2 : te y) :
 Zt [AV.agg 2 (zr.enc x), AV.agg 2 (zr.enc y)] → bF (dK (Nt.n x * Nt.d y)) (bF (dK (Nt.d x * Nt.n y)) (2 = 2 ∧ (kI ∧ Nt.n x * Nt.d y = Nt.n (Nt.mk (Nt.n x * Nt.d y) (Nt.d x * Nt.n y))) ∧ kI ∧ Nt.d x * Nt.n y = Nt.d (Nt.mk (Nt.n x * Nt.d y) (Nt.d x * Nt.n y)))) := by
 delta bF dK kI
 intro hb
 simp only [sS, dS]
 unfold te at h1 h2
 have m1 := YS (a := x.n) (b := y.d) h1.1 ⟨by omega, h2.2.2⟩
 have m3 := YS (a := x.d) (b := y.n) ⟨by omega, h1.2.2⟩ h2.1
 exact ⟨⟨by omega, by omega⟩, ⟨by omega, by omega⟩⟩
theorem II (x : Nt) (y : Nt) (h1 : te x) (h2 : te y) : zU Tryz.prog [] 104 [Yc x, Yc y] (Yc (⟨x.n * y.d, x.d * y.n⟩ : Nt)) :=
 zW (T := T0) (an := .auto) mixed zQ (Eq.mp (by kernel_rfl) (il x y h1 h2))
theorem HY : zp Tryz.prog [] 104 mt := by
 intro xs ps r h hp
 unfold mt at h
 split at h
 ·skip
  rename_i p_x p_y
  cases h
  obtain ⟨q0, q1, q2, q3, -⟩ := ZF hp
  exact weaken (ys := [Yc (⟨AV.int (p_x 0), AV.int (p_x 1)⟩ : Nt), Yc (⟨AV.int (p_y 0), AV.int (p_y 1)⟩ : Nt)]) ⟨ZT (x := .agg 2 p_x) (α := Nt) q0, ZT (x := .agg 2 p_y) (α := Nt) q1, trivial⟩ (II (⟨AV.int (p_x 0), AV.int (p_x 1)⟩ : Nt) (⟨AV.int (p_y 0), AV.int (p_y 1)⟩ : Nt) q2 q3)
 ·cases h
noncomputable def ga (G : List (Nat × Obj)) : Tb := (((W2 G).plus 78 vq).plus 79 VH).body Tryz.prog [(58, .auto)]
theorem P6 {G : List (Nat × Obj)} (hG : zo G) : zz Tryz.prog (ga G) := zz.body mixed (zz.plus (zz.plus zQ (UX hG)) (SD hG)) _
def nu : List AV → Option (List zn × AV)
 | [.agg 2 p_x, .agg 2 p_y] => some ([.b (ZM (p_x 0) && ZM (p_x 1)), .b (ZM (p_y 0) && ZM (p_y 1)), .p (t8 (⟨AV.bytes (p_x 0), AV.bytes (p_x 1)⟩ : Pt)), .p (t8 (⟨AV.bytes (p_y 0), AV.bytes (p_y 1)⟩ : Pt)), .p (zY (⟨AV.bytes (p_y 0), AV.bytes (p_y 1)⟩ : Pt).n ≠ 0), .p (Zm (zY (⟨AV.bytes (p_x 0), AV.bytes (p_x 1)⟩ : Pt).n * zY (⟨AV.bytes (p_y 0), AV.bytes (p_y 1)⟩ : Pt).d) = 0), .p (Zm (zY (⟨AV.bytes (p_y 0), AV.bytes (p_y 1)⟩ : Pt).n * zY (⟨AV.bytes (p_x 0), AV.bytes (p_x 1)⟩ : Pt).d) = 0)], .tup 2 (zw [.str (Y5 (zY (⟨AV.bytes (p_x 0), AV.bytes (p_x 1)⟩ : Pt).n * zY (⟨AV.bytes (p_y 0), AV.bytes (p_y 1)⟩ : Pt).d) (zY (⟨AV.bytes (p_y 0), AV.bytes (p_y 1)⟩ : Pt).n * zY (⟨AV.bytes (p_x 0), AV.bytes (p_x 1)⟩ : Pt).d)), .i 0]))
 | _ => none
theorem IZ (G : List (Nat × Obj)) (x : Pt) (y : Pt) (h1 : t8 x) (h2 : t8 y) (h3 : zY y.n ≠ 0) (h4 : Zm (zY x.n * zY y.d) = 0) (h5 : Zm (zY y.n * zY x.d) = 0) :
 let q1 := (True ∧ bA #[] = Y5 (zY (Pt.n x) * zY (Pt.d y)) (zY (Pt.n y) * zY (Pt.d x))); let q2 := (Yd (fun (x1 x2 : Int) => x1 * x2) (Pt.n x) (Pt.d y) != iZ); let q3 := (bA #[]); let q4 := (zY q3); let q5 := (y5 (fun (x1 x2 : Int) => x1 * x2) (Pt.n x) (Pt.d y)); let q6 := (y5 (fun (x1 x2 : Int) => x1 * x2) (Pt.n y) (Pt.d x)); Zt [AV.agg 2 (zr.enc x), AV.agg 2 (zr.enc y)] → zZ (Pt.n y == bA #[(48 : UInt8)]) (j2
 ∧ q1 ∧ kI ∧ (12 : Int) = iZ) (lN (Pt.n x) ≤ nM ∧ lN (Pt.d y) ≤ nM ∧ zZ q2 (zZ q2 (j2 ∧ q1 ∧ kI ∧ Yd (fun (x1 x2 : Int) => x1 * x2) (Pt.n x) (Pt.d y) = iZ) (ZQ q3 = iZ ∧ ZQ q3 = iZ ∧ zY q3 ≠ iZ ∧ j2 ∧ (True ∧ Y5 q4 q4 = Y5 (zY (Pt.n x) * zY (Pt.d y)) (zY (Pt.n y) * zY (Pt.d x))) ∧ kI ∧ iZ = iZ)) (lN (Pt.n y) ≤ nM ∧ lN (Pt.d x) ≤ nM ∧ zZ (Yd
 (fun (x1 x2 : Int) => x1 * x2) (Pt.n y) (Pt.d x) != iZ) (j2 ∧ q1 ∧ kI ∧ Yd (fun (x1 x2 : Int) => x1 * x2) (Pt.n y) (Pt.d x) = iZ) (ZQ q5 = iZ ∧ ZQ q6 = iZ ∧ zY q6 ≠ iZ ∧ j2 ∧ (True ∧ Y5 (zY q5) (zY q6) = Y5 (zY (Pt.n x) * zY (Pt.d y)) (zY (Pt.n y) * zY (Pt.d x))) ∧ kI ∧ iZ = iZ))) := by
 delta bA nM kI j2 lN iZ
 dsimp only
 intro hb
 simp only [sS, dS]
 obtain ⟨a1, a2, a3⟩ := h1
 obtain ⟨b1, b2, b3⟩ := h2
 have l1 := (yV a1).2.1
 have l2 := (yV a2).2.1
 have l3 := (yV b1).2.1
 have l4 := (yV b2).2.1
 obtain ⟨p1, p2⟩ := wQ (f := fun x1 x2 => x1 * x2) a1 b2
 obtain ⟨p3, p4⟩ := wQ (f := fun x1 x2 => x1 * x2) b1 a2
 obtain ⟨r1, r2, r3⟩ := wC h4
 obtain ⟨r4, r5, r6⟩ := wC h5
 rw [p1, p2, p3, p4, h4, h5, r2, r5]
 refine zX.2 ⟨fun c => absurd (by rw [eq_of_beq c]; decide) h3, fun _ => ⟨by omega, by omega, fun h => absurd rfl h, fun _ => ⟨by omega, by omega, fun h => absurd rfl h, fun _ => ⟨r1, r4, Int.mul_ne_zero h3 a3, rfl, rfl⟩⟩⟩⟩
theorem IM {G : List (Nat × Obj)} (hG : zo G) (x : Pt) (y : Pt) (h1 : t8 x) (h2 : t8 y) (h3 : zY y.n ≠ 0) (h4 : Zm (zY x.n * zY y.d) = 0) (h5 : Zm (zY y.n * zY x.d) = 0) : zU Tryz.prog G 105 [Yc x, Yc y] (.tup 2 (zw [.str (Y5 (zY x.n * zY y.d) (zY y.n * zY x.d)), .i 0])) :=
 zW (T := ga G) (an := .auto) mixed (P6 hG) (Eq.mp (by kernel_rfl) (IZ G x y h1 h2 h3 h4 h5))
theorem HM {G : List (Nat × Obj)} (hG : zo G) : zp Tryz.prog G 105 nu := by
 intro xs ps r h hp
 unfold nu at h
 split at h
 ·skip
  rename_i p_x p_y
  cases h
  obtain ⟨q0, q1, q2, q3, q4, q5, q6, -⟩ := ZF hp
  exact weaken (ys := [Yc (⟨AV.bytes (p_x 0), AV.bytes (p_x 1)⟩ : Pt), Yc (⟨AV.bytes (p_y 0), AV.bytes (p_y 1)⟩ : Pt)]) ⟨ZT (x := .agg 2 p_x) (α := Pt) q0, ZT (x := .agg 2 p_y) (α := Pt) q1, trivial⟩ (IM hG (⟨AV.bytes (p_x 0), AV.bytes (p_x 1)⟩ : Pt) (⟨AV.bytes (p_y 0), AV.bytes (p_y 1)⟩ : Pt) q2 q3 q4 q5 q6)
 ·cases h
noncomputable def Gi (G : List (Nat × Obj)) : Tb := (((((W2 G).plus 57 wz).plus 55 VE).plus 101 rq).plus 104 mt).plus 105 nu |>.body Tryz.prog [(60, .auto), (62, .auto)]
theorem OF {G : List (Nat × Obj)} (hG : zo G) : zz Tryz.prog (Gi G) :=
 zz.body mixed (zz.plus (zz.plus (zz.plus (zz.plus (zz.plus zQ (vN hG)) (zp.mono Si)) (mz hG)) (zp.mono HY)) (HM hG)) _
theorem IB {a b : zj} (ha : Ym 140 a) (hb : Ym 140 b) (hp : zF b ≠ 0) : zM b ≠ 0 ∧ (zP a : Int) * zM b ≠ 0 ∧ Y5 (zM a * (zP b : Int)) (zM b * (zP a : Int)) = zt (zF a / zF b) := by
 have h0 : zM b ≠ 0 := fun e => hp (by unfold zF; rw [e]; exact Rat.zero_mkRat _)
 have da := ha.parts.2.2
 have db := hb.parts.2.2
 refine ⟨h0, Int.mul_ne_zero (by omega) h0, ?_⟩
 rw [L2 (Int.mul_ne_zero h0 (by omega))]
 congr 1
 unfold zF
 rw [Rat.mkRat_eq_div, Rat.mkRat_eq_div, Rat.intCast_mul, Rat.intCast_mul, Rat.intCast_natCast, Rat.intCast_natCast]
 have e1 : ((zP a : Nat) : Rat) ≠ 0 := fun e => by have := Rat.natCast_eq_zero_iff.1 e; omega
 have e2 : ((zP b : Nat) : Rat) ≠ 0 := fun e => by have := Rat.natCast_eq_zero_iff.1 e; omega
 have e3 : ((zM b : Int) : Rat) ≠ 0 := fun e => h0 (Rat.intCast_eq_zero_iff.1 e)
 grind
theorem Lp (G : List (Nat × Obj)) (a : List UInt8) (b : List UInt8) (ha : Ym 140 a) (hc : Ym 140 b) (hp : zF b ≠ 0) :
 let q2 := (True ∧ bA #[] = zt (zF a / zF b)); let q6 := (Value.agg #[Value.string (ByteArray.mk #[]), Value.string (ByteArray.mk #[])]); let q5 := (fun (i : Nat) => if 0 ≤ i ∧ i < 0 + 2 then zw [AV.str (bif zh a == iZ then zO a else []), AV.str (bif zh a == iZ then yZ a else [])] (i - 0) else Z0 q6 i); let q4 := (Pt.mk (AV.bytes (q5 0)) (AV.bytes (q5 1))); let q3 := (Pt.n q4); let q7 := (Pt.d q4); let q10 := (fun (i : Nat) => if 0 ≤ i ∧ i < 0 + 2 then zw [AV.str (bif zh b == iZ then zO b else []), AV.str
 (bif zh b == iZ then yZ b else [])] (i - 0) else Z0 q6 i); let q9 := (Pt.mk (AV.bytes (q10 0)) (AV.bytes (q10 1))); let q8 := (Pt.n q9); let q11 := (Pt.d q9); let q12 := (zY q3 * zY q11); let q13 := (zY q8 * zY q7); let q1 := (lN a ≤ nX ∧ zZ (zh a != iZ) (j2 ∧ q2 ∧ kI ∧ zh a = iZ) (lN b ≤ nX ∧ zZ (zh b != iZ) (j2 ∧ q2 ∧ kI ∧ zh b = iZ) ((ZQ q3 = iZ ∧ ZQ q7 = iZ ∧
 zY q7 ≠ iZ) ∧ (ZQ q8 = iZ ∧ ZQ q11 = iZ ∧ zY q11 ≠ iZ) ∧ zY q8 ≠ iZ ∧ Zm q12 = iZ ∧ Zm q13 = iZ ∧ j2 ∧ (True ∧ Y5 q12 q13 = zt (zF a / zF b)) ∧ kI ∧ iZ = iZ))); let q16 := (Value.agg #[Value.int .i64 iZ, Value.int .i64 iZ]); let q15 := (fun (i : Nat) => if 0 ≤ i ∧ i < 0 + 2 then zw [AV.i (bif Zz a then zM a else iZ), AV.i (bif Zz a then (cI (zP a)) else iZ)] (i - 0) else Z0 q16 i); let q14 := (Nt.mk (AV.int (q15 0))
 (AV.int (q15 1))); let q18 := (fun (i : Nat) => if 0 ≤ i ∧ i < 0 + 2 then zw [AV.i (bif Zz b then zM b else iZ), AV.i (bif Zz b then (cI (zP b)) else iZ)] (i - 0) else Z0 q16 i); let q17 := (Nt.mk (AV.int (q18 0)) (AV.int (q18 1))); let q20 := (Nt.mk (Nt.n q14 * Nt.d q17) (Nt.d q14 * Nt.n q17)); let q19 := (Nt.mk (AV.int (aI (Nt.n q20))) (AV.int (aI (Nt.d q20)))); Zt [AV.str a, AV.str b] → zZ (!b == bA #[(48 : UInt8)]) (lN a ≤ nX ∧ zZ (!Zz a) q1
 (lN b ≤ nX ∧ zZ (!Zz b) q1 ((((-99999999 : Int) ≤ Nt.n q14 ∧ Nt.n q14 ≤ (99999999 : Int)) ∧ iZ < Nt.d q14 ∧ Nt.d q14 ≤ (99999999 : Int)) ∧ (((-99999999 : Int) ≤ Nt.n q17 ∧ Nt.n q17 ≤ (99999999 : Int)) ∧ iZ < Nt.d q17 ∧ Nt.d q17 ≤ (99999999 : Int)) ∧ Nt.d q19 ≠ iZ ∧ ((-1000000000000000000 : Int) ≤ Nt.d q19 ∧ Nt.d q19 ≤ (1000000000000000000 : Int)) ∧ ((-1000000000000000000 : Int) ≤ Nt.n q19 ∧ Nt.n q19 ≤ (1000000000000000000 : Int)) ∧ j2 ∧ (True ∧ Y5 (Nt.n q19) (Nt.d q19) = zt (zF a / zF b)) ∧ IntKind.i64 =
 .i64 ∧ iZ = iZ))) q1 := by
 delta bA nX cI kI j2 lN iZ aI
 dsimp only
 intro hb
 simp only [sS, dS]
 obtain ⟨n0, n1, n2⟩ := IB ha hc hp
 have h0 : (b == [48]) = false := beq_eq_false_iff_ne.2 fun e => by subst e; exact n0 (by decide)
 have la := Yt ha (by decide) (by decide)
 have lb := Yt hc (by decide) (by decide)
 obtain ⟨m1, m2, m3, m4⟩ := uh ha hc
 have p1 := Ve ha.1
 have p2 := Ve hc.1
 obtain ⟨_, _, v1, v2⟩ := lf ha.1
 obtain ⟨_, _, v3, v4⟩ := lf hc.1
 have r1 := xh m1 (by decide) (by decide)
 have r2 := xh m2 (by decide) (by decide)
 have q3 : zY (zO b) ≠ 0 := by rw [v3]; exact n0
 have q4 : Zm (zY (zO a) * zY (yZ b)) = 0 := by rw [v1, v4]; exact r1
 have q5 : Zm (zY (zO b) * zY (yZ a)) = 0 := by rw [v3, v2]; exact r2
 have q6 : Y5 (zY (zO a) * zY (yZ b)) (zY (zO b) * zY (yZ a)) = zt (zF a / zF b) := by rw [v1, v2, v3, v4]; exact n2
 rw [h0]
 refine zX.2 ⟨fun _ => ⟨la, zX.2 ⟨fun c => ?_, fun c => ⟨lb, zX.2 ⟨fun c2 => ?_, fun c2 => ?_⟩⟩⟩⟩, fun c => by cases c⟩
 rotate_left 2
 ·rw [Bool.not_eq_false'] at c c2
  obtain ⟨a1, a2, a3⟩ := yI c
  obtain ⟨b1, b2, b3⟩ := yI c2
  have w1 := YS (a := zM a) (b := (zP b : Int)) ⟨by omega, by omega⟩ ⟨by omega, by omega⟩
  have w2 := YS (a := (zP a : Int)) (b := zM b) ⟨by omega, by omega⟩ ⟨by omega, by omega⟩
  rw [c, c2]
  simp only [cond_true]
  have w3 : -1000000000000000000 ≤ (zP a : Int) * zM b ∧ (zP a : Int) * zM b ≤ 1000000000000000000 := ⟨by omega, by omega⟩
  have w4 : -1000000000000000000 ≤ zM a * (zP b : Int) ∧ zM a * (zP b : Int) ≤ 1000000000000000000 := ⟨by omega, by omega⟩
  rw [Int.mul_comm (zM b)] at n2
  exact ⟨TH c, TH c2, n1, w3, w4, rfl, n2⟩
 all_goals
  rw [ha.1, hc.1]
  exact ⟨la, fun h => absurd rfl h, fun _ => ⟨lb, fun h => absurd rfl h, fun _ => ⟨p1, p2, q3, q4, q5, rfl, q6⟩⟩⟩
theorem jM {G : List (Nat × Obj)} (hG : zo G) (a : List UInt8) (b : List UInt8) (ha : Ym 140 a) (hc : Ym 140 b) (hp : zF b ≠ 0) : zU Tryz.prog G 66 [.str a, .str b] (.tup 2 (zw [.str (zt (zF a / zF b)), .i 0])) :=
 zW (T := Gi G) (an := .auto) mixed (OF hG) (Eq.mp (by kernel_rfl) (Lp G a b ha hc hp))
structure H6 (a b : zj) : Prop where
 fa : Ym 140 a
 fb : Ym 140 b
 ne : zF b ≠ 0
def Mh := Tr H6 (gJ (· / ·))
theorem Jx {G : List (Nat × Obj)} (hG : zo G) : zp Tryz.prog G 66 Mh := Pj fun a b h => jM hG a b h.1 h.2 h.3
end Go.Te

namespace Go.Te
open Go Go.Sx Go.Proofs Go.Ar Go.RowKit
set_option maxRecDepth 100000
set_option maxHeartbeats 4000000
def Nn : List AV → Option (List zn × AV)
 | [.v (.int .i64 n), .v (.int .i64 d)] => some ([.p (-10000000000000000 ≤ n ∧ n ≤ 10000000000000000), .p (0 < d ∧ d ≤ 10000000000000000)], .tup 2 (zw [.str (ZW n d.toNat), .i 0]))
 | _ => none
theorem JK (G : List (Nat × Obj)) (n : Int) (d : Int) (hn : -10000000000000000 ≤ n ∧ n ≤ 10000000000000000) (hd : 0 < d ∧ d ≤ 10000000000000000) :
 Zt [aI n, aI d] → zZ (d == iZ) (j2 ∧ (True ∧ bA #[] = ZW n (Int.toNat d)) ∧ kI ∧ (12 : Int) = iZ) (zZ (d == iO) ((iN ≤ n ∧ n ≤ iX) ∧ j2 ∧ (True ∧ Lib.itoa n = ZW n (Int.toNat d)) ∧ kI ∧ iZ = iZ) ((iN ≤ n ∧ n ≤ iX) ∧ (iN ≤ d ∧ d ≤
 iX) ∧ ZQ (Lib.itoa n) = iZ ∧ ZQ (Lib.itoa d) = iZ ∧ zY (Lib.itoa d) ≠ iZ ∧ j2 ∧ (True ∧ Y5 (zY (Lib.itoa n)) (zY (Lib.itoa d)) = ZW n (Int.toNat d)) ∧ kI ∧ iZ = iZ)) := by
 delta bA kI j2 iZ iO iX iN aI
 intro hb
 simp only [sS, dS]
 have key : ∀ m : Int, m.natAbs ≤ 10000000000000000 → ZQ (Lib.itoa m) = 0 := fun m hm => by
  rw [YU]
  exact xh (k := 17) (Nat.lt_of_le_of_lt hm (by decide)) (by decide) (by decide)
 have hs : Y5 (zY (Lib.itoa n)) (zY (Lib.itoa d)) = ZW n d.toNat := by
  rw [(zC n).2, (zC d).2]
  unfold Y5
  rw [show zg d 0 = false from Bool.eq_false_iff.2 fun e => by have := (zq _ _).1 e; omega]; rfl
 rw [hs]
 exact ⟨fun h => by omega, fun _ => ⟨fun h => ⟨⟨by omega, by omega⟩, rfl, by rw [h]; exact OG.symm⟩, fun _ => ⟨⟨by omega, by omega⟩, ⟨by omega, by omega⟩, key n (by omega), key d (by omega), by rw [(zC d).2]; omega, rfl, rfl⟩⟩⟩
theorem Hp {G : List (Nat × Obj)} (hG : zo G) (n : Int) (d : Int) (hn : -10000000000000000 ≤ n ∧ n ≤ 10000000000000000) (hd : 0 < d ∧ d ≤ 10000000000000000) : zU Tryz.prog G 50 [.i n, .i d] (.tup 2 (zw [.str (ZW n d.toNat), .i 0])) :=
 zW (T := (NR G).plus 79 VH) (an := .auto) mixed (zz.plus (YZ hG) (SD hG)) (Eq.mp (by kernel_rfl) (JK G n d hn hd))
theorem Ha {G : List (Nat × Obj)} (hG : zo G) : zp Tryz.prog G 50 Nn := by
 intro xs ps r h hp
 unfold Nn at h
 split at h
 ·skip
  rename_i n d
  cases h
  obtain ⟨q0, q1, -⟩ := ZF hp
  exact weaken (ys := [.i n, .i d]) ⟨zT _, zT _, trivial⟩ (Hp hG n d q0 q1)
 ·cases h
def QR : List AV → Option (List zn × AV)
 | [.v (.int .u64 x)] => some ([.p (0 ≤ x ∧ x ≤ 18446744073709551615)], .i (Lib.bitLen x.toNat))
 | _ => none
theorem JA : zp Tryz.prog [] 88 QR := by
 intro xs ps r h hp
 unfold QR at h
 split at h
 ·rename_i x
  cases h
  have q : 0 ≤ x ∧ x ≤ 18446744073709551615 := hp _ List.mem_cons_self
  refine ⟨enters_of Tryz.func88 (by kernel_rfl) rfl, fun w S vals hS hg hr => ?_⟩
  match vals, hr with
  | [v], ⟨hv, _⟩ =>
  obtain rfl := ZR hv
  refine (Tryz.bits_Len x w q.1 q.2).mono ?_
  rintro e w' ⟨rfl, rfl⟩
  exact ⟨⟨Below.refl _ _, Nat.le_refl _⟩, _, rfl, .v _⟩
 ·cases h
theorem K6 : ∀ (f x : Nat), x < 2 ^ f → x < 2 ^ Lib.bitLenAux f x ∧ (x ≠ 0 → 2 ^ Lib.bitLenAux f x ≤ 2 * x) ∧ (x = 0 → Lib.bitLenAux f x = 0)
 | 0, x, h => by
  have : x = 0 := by simpa using h
  subst this
  exact ⟨by decide, fun h => absurd rfl h, fun _ => rfl⟩
 | f + 1, x, h => by
  unfold Lib.bitLenAux
  split
  ·rename_i h0
   exact ⟨by rw [h0]; decide, fun h1 => absurd h0 h1, fun _ => rfl⟩
  ·rename_i h0
   obtain ⟨h1, h2, h3⟩ := K6 f (x / 2) (by rw [Nat.pow_succ] at h; omega)
   rw [Nat.pow_add]
   refine ⟨by omega, fun _ => ?_, fun e => absurd e h0⟩
   by_cases hx : x / 2 = 0
   ·rw [h3 hx]; omega
   ·have := h2 hx
    omega
theorem gz {x : Nat} (h0 : x ≠ 0) (h : x ≤ 1000000000000000000) : x < 2 ^ Lib.bitLen x ∧ Lib.bitLen x ≤ 60 := by
 obtain ⟨h1, h2, _⟩ := K6 64 x (Nat.lt_of_le_of_lt h (by decide))
 refine ⟨h1, Nat.le_of_not_lt fun hl => ?_⟩
 have := h2 h0
 have h3 : 2 ^ 61 ≤ 2 ^ Lib.bitLenAux 64 x := Nat.pow_le_pow_right (by omega) hl
 have h4 : 2 ^ 61 = 2305843009213693952 := by decide
 omega
def mi (n : Int) : yS :=
 .two .auto (.two .auto (.two .auto (.one (.loop Nat (fun σ z => [(0, σ.tm 0), (3, .i (z : Int))]) (fun σ z => []) 0 (fun σ z => 0 < z ∧ z ≤ 4294967296 ∧ n.toNat < (z + 1) * (z + 1)) (fun σ z => z) .auto))))
def uG : List AV → Option (List zn × AV)
 | [.v (.int .i64 n)] => some ([.p (0 ≤ n ∧ n ≤ 1000000000000000000)], .i (y7 n.toNat : Int))
 | _ => none
theorem MF (n : Int) (h : 0 ≤ n ∧ n ≤ 1000000000000000000) :
 Zt [aI n] → zZ (zg n (2 : Int)) (kI ∧ n = (cI (y7 (Int.toNat n)))) (bF (DB.db (yR IntKind.u64 n)) ((iZ ≤ n ∧ n ≤ (18446744073709551615 : Int)) ∧ bF (dK ((cI (Lib.bitLen (Int.toNat n))) + iO)) (bF (DB.db (yR .i64 (Int.tdiv ((cI (Lib.bitLen (Int.toNat n))) + iO) (2 : Int)))) ((∃ (z : Nat), ((0 < z ∧ z ≤ 4294967296 ∧ Int.toNat n < (z + 1) * (z + 1)) ∧ (kI ∧ n = n) ∧ kI ∧ IntKind.wrap IntKind.i64 (iO * (2 : Int) ^ min (Int.toNat (Int.tdiv ((cI (Lib.bitLen
 (Int.toNat n))) + iO) (2 : Int))) 64) = (cI z)) ∧ True) ∧ ∀ (z : Nat), 0 < z ∧ z ≤ 4294967296 ∧ Int.toNat n < (z + 1) * (z + 1) → bF (DB.db ((cI z) ≠ iZ)) (bF (dK (Int.tdiv n (cI z))) (bF (dK ((cI z) + Int.tdiv n (cI z))) (bF (dK (Int.tdiv ((cI z) + Int.tdiv n (cI z)) (2 : Int))) (zZ (leB (cI z) (Int.tdiv ((cI z) + Int.tdiv n (cI z)) (2 : Int))) (kI ∧ (cI z) = (cI (y7 (Int.toNat n)))) (∃ (z' : Nat), (((0 < z' ∧ z' ≤ 4294967296 ∧ Int.toNat n < (z' +
 1) * (z' + 1)) ∧ z' < z) ∧ (kI ∧ n = n) ∧ kI ∧ Int.tdiv ((cI z) + Int.tdiv n (cI z)) (2 : Int) = (cI z')) ∧ True))))))))) := by
 delta bF dK cI kI iZ iO aI
 intro hb
 simp only [sS, dS]
 obtain ⟨m, rfl⟩ : ∃ m : Nat, n = m := ⟨n.toNat, by omega⟩
 rw [Int.toNat_natCast]
 refine ⟨fun hs => ?_, fun hs => ?_⟩
 ·have : m = 0 ∨ m = 1 := by omega
  rcases this with rfl | rfl <;> decide +kernel
 obtain ⟨b1, b2⟩ := gz (x := m) (by omega) (by omega)
 have hm64 : m < 18446744073709551616 := by omega
 obtain ⟨s1, s2⟩ := xM hm64
 have hk : ((Lib.bitLen m : Int) + 1).tdiv 2 = (((Lib.bitLen m + 1) / 2 : Nat) : Int) := by
  rw [Int.tdiv_eq_ediv_of_nonneg (by omega)]; omega
 have hp : 2 ^ ((Lib.bitLen m + 1) / 2) ≤ 2 ^ 31 := Nat.pow_le_pow_right (by omega) (by omega)
 have hp2 : 2 ^ Lib.bitLen m ≤ 2 ^ ((Lib.bitLen m + 1) / 2) * 2 ^ ((Lib.bitLen m + 1) / 2) := by
  rw [← Nat.pow_add]
  exact Nat.pow_le_pow_right (by omega) (by omega)
 have hp0 : 0 < 2 ^ ((Lib.bitLen m + 1) / 2) := Nat.pow_pos (by omega)
 have h31 : 2 ^ 31 = 2147483648 := by decide
 rw [hk, Int.toNat_natCast, show min ((Lib.bitLen m + 1) / 2) 64 = (Lib.bitLen m + 1) / 2 by omega, Int.one_mul, show ((2 : Int) ^ ((Lib.bitLen m + 1) / 2)) = ((2 ^ ((Lib.bitLen m + 1) / 2) : Nat) : Int) by rw [Int.natCast_pow]; rfl]
 generalize 2 ^ ((Lib.bitLen m + 1) / 2) = z0 at *
 refine ⟨by simp only [yR]; omega, ⟨by omega, by omega⟩, by simp only [yR]; omega, by simp only [yR]; omega, ⟨z0, ⟨hp0, by omega, ?_⟩, ?_⟩, fun z ⟨z1, z2, z3⟩ => ?_⟩
 ·have : (z0 + 1) * (z0 + 1) = z0 * z0 + 2 * z0 + 1 := by grind
  omega
 ·rw [wT (by simp only [yR]; omega)]
 have e1 : (m : Int).tdiv (z : Int) = ((m / z : Nat) : Int) := by rw [Int.tdiv_eq_ediv_of_nonneg (by omega), Int.natCast_ediv]
 have hml : m / z ≤ m := Nat.div_le_self _ _
 have g1 := Pd (n := m) (r := z) (s := y7 m) z1 s1
 have g2 := ss (n := m) (r := z) z1
 have hs0 : 0 < y7 m := Nat.pos_of_ne_zero fun e => by rw [e] at s2; omega
 rw [e1]
 generalize m / z = q at *
 have e2 : ((z : Int) + (q : Int)).tdiv 2 = (((z + q) / 2 : Nat) : Int) := by rw [Int.tdiv_eq_ediv_of_nonneg (by omega)]; omega
 rw [e2]
 refine ⟨by omega, by simp only [yR]; omega, by simp only [yR]; omega, by simp only [yR]; omega, fun h => ?_, fun h => ⟨(z + q) / 2, ⟨⟨by omega, by omega, ?_⟩, by omega⟩, rfl⟩⟩
 ·rw [nQ hm64 (g2 (by omega)) z3]
 ·exact Nat.lt_of_lt_of_le s2 (Nat.mul_le_mul (by omega) (by omega))
theorem Ke (n : Int) (h : 0 ≤ n ∧ n ≤ 1000000000000000000) : zU Tryz.prog [] 166 [.i n] (.i (y7 n.toNat : Int)) :=
 zW (T := T0.plus 88 QR) (an := mi n) mixed (zz.plus zQ JA) (Eq.mp (by kernel_rfl) (MF n h))
theorem PY : zp Tryz.prog [] 166 uG := by
 intro xs ps r h hp
 unfold uG at h
 split at h
 ·skip
  rename_i n
  cases h
  obtain ⟨q0, -⟩ := ZF hp
  exact weaken (ys := [.i n]) ⟨zT _, trivial⟩ (Ke n q0)
 ·cases h
theorem Lv : ∀ i ∈ List.range 25, Zy (strOf (zm.getD i undef)) = true ∧ zY (strOf (zm.getD i undef)) = (y8.getD i 0 : Int) ∧ (strOf (zm.getD i undef)).length ≤ 18 := by decide
theorem OL : ∀ z ∈ List.range 25, y8.take (z + 1) = y8.take z ++ [y8.getD z 0] ∧ 2 ≤ y8.getD z 0 ∧ y8.getD z 0 < 98 := by decide
noncomputable def GM (G : List (Nat × Obj)) : Tb := (((NR G).plus 145 VI).plus 166 uG).plus 50 Nn
theorem Oj {G : List (Nat × Obj)} (hG : zo G) : zz Tryz.prog (GM G) := zz.plus (zz.plus (zz.plus (YZ hG) (zp.mono Sl)) (zp.mono PY)) (Ha hG)
def rM (m : Nat) (z : Nat) : Nat × Nat := yE (y8.take z) (1, m)
def nD (m : Nat) : yS :=
 .two .auto (.two .auto (.two (.two .auto (.one (.loop Nat (fun σ z => [(1, σ.tm 1), (18, σ.tm 18), (6, .i ((rM m z).1 : Int)), (7, .i ((rM m z).2 : Int)), (19, .i (z : Int))]) (fun σ z => []) 0 (fun σ z => z ≤ 25) (fun σ z => 25 - z) (.two .auto (.two .auto (.two (.one (.two .auto (.two .auto (.one (.loop (Nat × Nat) (fun σ z => [(1, σ.tm 1), (10, σ.tm 10), (18, σ.tm 18), (19, σ.tm 19), (6, .i (z.1 : Int)), (7, .i (z.2 : Int))]) (fun σ z => []) 0 (fun σ z => 0 < z.1 ∧ 0 < z.2 ∧ z.1 * z.1 * z.2 = m ∧ strip (AV.int (σ.tm 10)).toNat z = rM m ((AV.int (σ.tm 19)).toNat + 1)) (fun σ z => z.2) .auto))))) .auto)))))) .auto))
theorem mE (t : TypeId) (fr : Nat × Nat) (G : List (Nat × Obj)) (n d : Int) (hn : 0 < n) (hd : 0 < d ∧ d ≤ 10000000000000000) (hm : n * d ≤ 100000000000000000) :
 let q1 := (25 = 25 ∧ (((((((((((((((((((((((strOf (Array.getD zm (nat_lit 0) undef) = strOf (Array.getD zm (nat_lit 0) undef) ∧ strOf (Array.getD zm (nat_lit 1) undef) = strOf (Array.getD zm (nat_lit 1) undef)) ∧ strOf (Array.getD zm (nat_lit 2) undef) = strOf (Array.getD zm (nat_lit 2) undef)) ∧ strOf (Array.getD zm (nat_lit 3) undef) = strOf (Array.getD zm (nat_lit 3) undef)) ∧ strOf (Array.getD zm (nat_lit 4) undef) = strOf (Array.getD zm (nat_lit 4) undef)) ∧ strOf (Array.getD zm (nat_lit 5) undef) = strOf (Array.getD zm (nat_lit
 5) undef)) ∧ strOf (Array.getD zm (nat_lit 6) undef) = strOf (Array.getD zm (nat_lit 6) undef)) ∧ strOf (Array.getD zm (nat_lit 7) undef) = strOf (Array.getD zm (nat_lit 7) undef)) ∧ strOf (Array.getD zm (nat_lit 8) undef) = strOf (Array.getD zm (nat_lit 8) undef)) ∧ strOf (Array.getD zm (nat_lit 9) undef) = strOf (Array.getD zm (nat_lit 9) undef)) ∧ strOf (Array.getD zm (nat_lit 10) undef) = strOf (Array.getD zm (nat_lit 10) undef)) ∧ strOf (Array.getD zm (nat_lit 11) undef) = strOf (Array.getD zm (nat_lit 11) undef)) ∧ strOf
 (Array.getD zm (nat_lit 12) undef) = strOf (Array.getD zm (nat_lit 12) undef)) ∧ strOf (Array.getD zm (nat_lit 13) undef) = strOf (Array.getD zm (nat_lit 13) undef)) ∧ strOf (Array.getD zm (nat_lit 14) undef) = strOf (Array.getD zm (nat_lit 14) undef)) ∧ strOf (Array.getD zm (nat_lit 15) undef) = strOf (Array.getD zm (nat_lit 15) undef)) ∧ strOf (Array.getD zm (nat_lit 16) undef) = strOf (Array.getD zm (nat_lit 16) undef)) ∧ strOf (Array.getD zm (nat_lit 17) undef) = strOf (Array.getD zm (nat_lit 17) undef)) ∧ strOf (Array.getD zm
 (nat_lit 18) undef) = strOf (Array.getD zm (nat_lit 18) undef)) ∧ strOf (Array.getD zm (nat_lit 19) undef) = strOf (Array.getD zm (nat_lit 19) undef)) ∧ strOf (Array.getD zm (nat_lit 20) undef) = strOf (Array.getD zm (nat_lit 20) undef)) ∧ strOf (Array.getD zm (nat_lit 21) undef) = strOf (Array.getD zm (nat_lit 21) undef)) ∧ strOf (Array.getD zm (nat_lit 22) undef) = strOf (Array.getD zm (nat_lit 22) undef)) ∧ strOf (Array.getD zm (nat_lit 23) undef) = strOf (Array.getD zm (nat_lit 23) undef)) ∧ strOf (Array.getD zm (nat_lit 24) undef)
 = strOf (Array.getD zm (nat_lit 24) undef)); let q14 := (iZ < d ∧ d ≤ (10000000000000000 : Int)); let q15 := (cI (Prod.fst (nrm (Int.toNat (n * d))))); let q16 := (cI (Prod.snd (nrm (Int.toNat (n * d))))); Zt [aI n, aI d] → bF (dK (n * d)) ((∃ (z : Nat), (z ≤ 25 ∧ (kI ∧ d = d) ∧ q1 ∧ (kI ∧ iO = (cI (Prod.fst (rM (Int.toNat (n * d)) z)))) ∧ (kI ∧ n * d = (cI (Prod.snd (rM (Int.toNat (n * d)) z)))) ∧ kI ∧ iZ = (cI z)) ∧ True) ∧ ∀
 (z : Nat), let q2 := (strOf (Array.getD zm (Int.toNat (cI z)) undef)); let q3 := (Int.toNat (AV.int (aI (zY q2)))); let q4 := (Int.toNat (AV.int (aI (cI z))) + 1); let q5 := (kI ∧ zY q2 = zY q2); let q6 := (kI ∧ (cI z) = (cI z)); let q7 := (cI (Prod.fst (rM (Int.toNat (n * d)) z))); let q8 := (cI (Prod.snd (rM (Int.toNat (n * d)) z))); let q10 := (zY q2 * zY q2); let q9 := (dK q10); let q11 := (DB.db (zY q2 * zY q2 ≠ iZ)); let q12 := (↑(y7 (Int.toNat q8)) :
 Int); let q13 := (q7 * q12); z ≤ 25 → zZ (zg (cI z) (25 : Int)) (bF (DB.db (iZ ≤ (cI z) ∧ (cI z) < (↑25 : Int))) (bF (Zy q2) (lN q2 ≤ 18 ∧ (∃ (z_1 : Nat × Nat), ((0 < Prod.fst z_1 ∧ 0 < Prod.snd z_1 ∧ Prod.fst z_1 * Prod.fst z_1 * Prod.snd z_1 = Int.toNat (n * d) ∧ strip q3 z_1 = rM (Int.toNat (n * d)) q4) ∧ (kI ∧ d = d) ∧ q5 ∧ q1 ∧ q6 ∧ (kI ∧ q7 = (cI (Prod.fst z_1))) ∧ kI ∧ q8 = (cI (Prod.snd z_1))) ∧ True) ∧ ∀ (z_1 : Nat × Nat), 0 < Prod.fst z_1 ∧ 0 < Prod.snd z_1 ∧ Prod.fst z_1 * Prod.fst z_1
 * Prod.snd z_1 = Int.toNat (n * d) ∧ strip q3 z_1 = rM (Int.toNat (n * d)) q4 → bF q9 (bF q11 (zZ (Int.tmod (cI (Prod.snd z_1)) q10 == iZ) (bF (dK ((cI (Prod.fst z_1)) * zY q2)) (bF q9 (bF q11 (bF (dK (Int.tdiv (cI (Prod.snd z_1)) q10)) (∃ (z' : Nat × Nat), (((0 < Prod.fst z' ∧ 0 < Prod.snd z' ∧ Prod.fst z' * Prod.fst z' * Prod.snd z' = Int.toNat (n * d) ∧ strip q3 z' = rM (Int.toNat (n * d)) q4) ∧ Prod.snd z' < Prod.snd z_1) ∧ (kI ∧ d = d) ∧ q5 ∧ q1 ∧ q6 ∧ (kI ∧ (↑(Prod.fst z_1) :
 Int) * zY q2 = (cI (Prod.fst z'))) ∧ kI ∧ Int.tdiv (cI (Prod.snd z_1)) q10 = (cI (Prod.snd z'))) ∧ True))))) (bF (dK ((cI z) + iO)) (∃ (z' : Nat), ((z' ≤ 25 ∧ 25 - z' < 25 - z) ∧ (kI ∧ d = d) ∧ q1 ∧ (kI ∧ (cI (Prod.fst z_1)) = (cI (Prod.fst (rM (Int.toNat (n * d)) z')))) ∧ (kI ∧ (cI (Prod.snd z_1)) = (cI (Prod.snd (rM (Int.toNat (n * d)) z')))) ∧ kI ∧ (cI z) + iO = (cI z')) ∧ True)))))))
 ((iZ ≤ q8 ∧ q8 ≤ (1000000000000000000 : Int)) ∧ bF (dK (q12 * q12)) (zZ (q12 * q12 == q8) (bF (dK q13) (((-10000000000000000 : Int) ≤ q7 * q12 ∧ q7 * q12 ≤ (10000000000000000 : Int)) ∧ q14 ∧ (iN ≤ iO ∧ iO ≤ iX) ∧ j2 ∧ (True ∧ ZW q13 (Int.toNat d) = ZW q15 (Int.toNat d)) ∧ Lib.itoa iO = Lib.itoa q16)) (((-10000000000000000 : Int) ≤ q7 ∧ q7 ≤ (10000000000000000 : Int)) ∧ q14 ∧ (iN ≤ q8 ∧ q8 ≤
 iX) ∧ j2 ∧ (True ∧ ZW q7 (Int.toNat d) = ZW q15 (Int.toNat d)) ∧ Lib.itoa q8 = Lib.itoa q16)))) := by
 delta bF dK cI kI j2 lN iZ iO iX iN aI
 dsimp only
 intro hb
 simp only [sS, dS]
 obtain ⟨N, rfl⟩ : ∃ N : Nat, n = N := ⟨n.toNat, by omega⟩
 obtain ⟨D, rfl⟩ : ∃ D : Nat, d = D := ⟨d.toNat, by omega⟩
 rw [← Int.natCast_mul] at *
 rw [Int.toNat_natCast, Int.toNat_natCast]
 have hm0 : 0 < N * D := Nat.mul_pos (by omega) (by omega)
 generalize N * D = m at *
 have hS : ∀ z, Jz (1, m) (rM m z) := fun z => (wy (y8.take z) (1, m) (fun p hp => pG p (List.mem_of_mem_take hp)) Nat.one_pos hm0).1
 have hV : ∀ c l : Nat, 0 < c → 0 < l → c * c * l = m → c ≤ 1000000000 ∧ l ≤ m := fun c l h1 h2 h3 => by
  have h4 : c * c * 1 ≤ c * c * l := Nat.mul_le_mul_left _ h2
  have h5 : 1 * l ≤ c * c * l := Nat.mul_le_mul_right _ (Nat.mul_pos h1 h1)
  exact ⟨Nat.le_of_lt (xR (a := c) (b := 1000000000) (by omega)), by omega⟩
 refine ⟨by simp only [yR]; omega, ⟨0, by omega, rfl, rfl, rfl⟩, fun z hz => ⟨fun hlt => ⟨⟨by omega, hlt⟩, ?_⟩, fun hge => ?_⟩⟩
 ·obtain ⟨p1, p2, p3⟩ := Lv z (List.mem_range.2 (by omega))
  obtain ⟨t1, t2, t3⟩ := OL z (List.mem_range.2 (by omega))
  rw [p1, Xi, p2, Int.toNat_natCast]
  obtain ⟨v, ⟨q1, q2⟩, _⟩ := hS z
  have hst : strip (y8.getD z 0) (rM m z) = rM m (z + 1) := by
   show strip _ (Ar.yE _ _) = Ar.yE _ _
   rw [t1, WB]
  generalize y8.getD z 0 = p at *
  refine ⟨p3, ⟨rM m z, ⟨q1, q2, by simpa using v, hst⟩, rfl, rfl⟩, fun y ⟨y1, y2, y3, y4⟩ => ?_⟩
  obtain ⟨c, l⟩ := y
  simp only at *
  obtain ⟨b1, b2⟩ := hV c l y1 y2 y3
  have hpp : p * p ≤ 98 * 98 := Nat.mul_le_mul (by omega) (by omega)
  have hpp2 : 2 * 2 ≤ p * p := Nat.mul_le_mul t2 t2
  have e1 : (l : Int).tmod ((p * p : Nat) : Int) = ((l % (p * p) : Nat) : Int) := by rw [Int.tmod_eq_emod_of_nonneg (by omega)]; omega
  have e2 : (l : Int).tdiv ((p * p : Nat) : Int) = ((l / (p * p) : Nat) : Int) := by rw [Int.tdiv_eq_ediv_of_nonneg (by omega), Int.natCast_ediv]
  rw [← Int.natCast_mul, e1, e2]
  have hcp : c * p ≤ 1000000000 * 98 := Nat.mul_le_mul b1 (by omega)
  have hdl : l / (p * p) ≤ l := Nat.div_le_self _ _
  refine ⟨by simp only [yR]; omega, by omega, fun h => ?_, fun h => ⟨by simp only [yR]; omega, z + 1, ⟨by omega, by omega⟩, ?_⟩⟩
  ·have h : l % (p * p) = 0 := by omega
   have hd := Nat.dvd_of_mod_eq_zero h
   have h2 : 0 < l / (p * p) := Nat.div_pos (Nat.le_of_dvd y2 hd) (by omega)
   refine ⟨by rw [← Int.natCast_mul]; simp only [yR]; omega, by simp only [yR]; omega, by omega, by simp only [yR]; omega, (c * p, l / (p * p)), ⟨⟨Nat.mul_pos y1 (by omega), h2, ?_, by rw [← rG t2 y2 h]; exact y4⟩, Wn t2 y2⟩, by rw [Int.natCast_mul], rfl⟩
   obtain ⟨k, rfl⟩ := hd
   simp only
   rw [Nat.mul_div_cancel_left _ (by omega), ← y3]
   grind
  ·rw [Qx (by omega)] at y4
   rw [← y4]
   exact ⟨rfl, rfl, by omega⟩
 ·have hz25 : z = 25 := by omega
  subst hz25
  have hN : nrm m = pj (rM m 25) := rfl
  obtain ⟨v, ⟨q1, q2⟩, _⟩ := hS 25
  rw [hN]
  generalize rM m 25 = y at *
  obtain ⟨c, l⟩ := y
  simp only [Nat.one_mul] at *
  obtain ⟨b1, b2⟩ := hV c l q1 q2 v
  obtain ⟨s1, s2⟩ := xM (n := l) (by omega)
  have hr : y7 l ≤ 1000000000 := Nat.le_of_lt (xR (a := y7 l) (b := 1000000000) (by omega))
  unfold pj
  simp only
  rw [← Int.natCast_mul, ← Int.natCast_mul]
  have hcr : c * y7 l * (c * y7 l) ≤ m := by
   have e : c * y7 l * (c * y7 l) = c * c * (y7 l * y7 l) := by grind
   rw [e, ← v]
   exact Nat.mul_le_mul_left _ s1
  have hcr2 : c * y7 l < 1000000000 := xR (by omega)
  refine ⟨⟨by omega, by omega⟩, by simp only [yR]; omega, fun h => ?_, fun h => ?_⟩
  ·rw [if_pos (by omega)]
   exact ⟨by simp only [yR]; omega, ⟨by omega, by omega⟩, hd, ⟨by omega, by omega⟩, rfl, rfl, rfl⟩
  ·rw [if_neg (by omega)]
   exact ⟨⟨by omega, by omega⟩, hd, ⟨by omega, by omega⟩, rfl, rfl, rfl⟩
end Go.Te
