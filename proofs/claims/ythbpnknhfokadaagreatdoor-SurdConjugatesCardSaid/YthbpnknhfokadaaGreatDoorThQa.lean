/- rational: what is told of numbers as rational numbers. -/
import Derived.Test.YthbpnknhfokadaaGreatDoorThRc
import Derived.Test.YthbpnknhfokadaaGreatDoorArW
import Derived.Lib.BitFns
set_option linter.unusedSimpArgs false
set_option linter.unusedVariables false
namespace Go.Te
open Go Go.Sx Go.Proofs Go.Ar
set_option maxRecDepth 100000
set_option maxHeartbeats 4000000
theorem kH {k : Nat} {a : zI} (h : Yk k a) (hk : 0 < k) (hk2 : k ≤ 300) : a.length ≤ 700 := by
 obtain ⟨h1, h2, h3⟩ := h.parts
 have a1 : xa (zj a) ≤ k := Ya hk h1
 have a2 : Lib.nDigits (zn a) ≤ k := (z7 hk).2 h2
 rw [← wu (Zr.1 h.1).1]
 unfold YL
 rw [List.length_append, XX]
 have b2 : (bif Nat.beq (zn a) 1 then [] else 47 :: Lib.decDigits (zn a)).length ≤ 301 := by
  cases Nat.beq (zn a) 1 with
  | true => simp
  | false => rw [cond_false, List.length_cons, Lib.decDigits_length]; omega
 split <;> omega
theorem YR {k : Nat} {a : zI} (h : Yk k a) (hk : 0 < k) (hk2 : k ≤ 300) : a.length ≤ 9223372036854775807 := Nat.le_trans (kH h hk hk2) (by decide)
theorem Ku {n d : Int} (hd : d ≠ 0) : xt n d = zt ((n : Rat) / (d : Rat)) := by
 unfold xt
 have e1 : ((d.natAbs : Nat) : Rat) = ((d.natAbs : Int) : Rat) := (Rat.intCast_natCast _).symm
 cases h : zF d 0 with
 | true =>
  have h := (zp _ _).1 h
  rw [cond_true, Yf _ (by omega), Rat.mkRat_eq_div]
  congr 1
  rw [show (-d).toNat = d.natAbs by omega, e1, show ((d.natAbs : Nat) : Int) = -d by omega, Rat.intCast_neg, Rat.intCast_neg]
  grind
 | false =>
  have h : ¬ d < 0 := fun e => by rw [(zp _ _).2 e] at h; cases h
  rw [cond_false, Yf _ (by omega), Rat.mkRat_eq_div]
  congr 1
  rw [show d.toNat = d.natAbs by omega, e1, show ((d.natAbs : Nat) : Int) = d by omega]
theorem xF {k : Nat} {n : Int} (h : n.natAbs < 10 ^ k) (h0 : 0 < k) (hk : k ≤ 300) : ZM n = 0 := (Zo h0 hk h).2
theorem uO {j k : Nat} {a b : zI} (ha : Yk j a) (hb : Yk k b) : (zj a * (zn b : Int)).natAbs < 10 ^ (j + k) ∧ (zj b * (zn a : Int)).natAbs < 10 ^ (j + k) ∧ (zj a * zj b).natAbs < 10 ^ (j + k) ∧ ((zn a : Int) * (zn b : Int)).natAbs < 10 ^ (j + k) := by
 obtain ⟨a1, a2, a3⟩ := ha.parts
 obtain ⟨b1, b2, b3⟩ := hb.parts
 refine ⟨?_, ?_, ?_, ?_⟩
 ·rw [Int.natAbs_mul, Int.natAbs_natCast]; exact Yr a1 b2
 ·rw [Int.natAbs_mul, Int.natAbs_natCast, Nat.mul_comm]; exact Yr a2 b1
 ·rw [Int.natAbs_mul]; exact Yr a1 b1
 ·rw [← Int.natCast_mul, Int.natAbs_natCast]; exact Yr a2 b2
theorem jG {u v w k : Nat} (h1 : u < 10 ^ k) (h2 : v < 10 ^ k) (h : w ≤ u + v) : w < 10 ^ (k + 1) := by
 rw [Nat.pow_succ]; omega
theorem Ip {f : Int → Int → Int} (hf : ∀ u v, (f u v).natAbs ≤ u.natAbs + v.natAbs) {a b : zI} (ha : Yk 140 a) (hb : Yk 140 b) : tQ f a b = 0 ∧ pK f a b = zt (mkRat (f (zj a * (zn b : Int)) (zj b * (zn a : Int))) (zn a * zn b)) := by
 obtain ⟨m1, m2, m3, m4⟩ := uO ha hb
 have m5 := jG m1 m2 (hf (zj a * (zn b : Int)) (zj b * (zn a : Int)))
 have e : tQ f a b = 0 := by
  unfold tQ Vy K0
  rw [ha.1, hb.1, xF m1 (by decide) (by decide), xF m2 (by decide) (by decide), xF m5 (by omega) (by omega), xF m4 (by decide) (by decide)]
  rfl
 refine ⟨e, ?_⟩
 unfold pK
 rw [e]
 show ZW _ _ = _
 rw [Yf _ (Nat.mul_pos ha.parts.2.2 hb.parts.2.2)]; rfl
def te (c : zI → zI → Prop) (r : zI → zI → AV) : List AV → Option (List zk × AV)
 | [.str a, .str b] => some ([.p (c a b)], r a b)
 | _ => none
theorem pj {P : Program} {G : List (Nat × Obj)} {f : FuncId} {c : zI → zI → Prop} {r : zI → zI → AV} (h : ∀ a b, c a b → zU P G f [.str a, .str b] (r a b)) : zO P G f (te c r) := by
 intro xs ps r' e hp
 unfold te at e
 split at e
 ·cases e
  exact h _ _ (hp _ List.mem_cons_self)
 ·cases e
structure Oo (k : Nat) (a b : zI) : Prop where
 fa : Yk k a
 fb : Yk k b
abbrev Hm (f : Rat → Rat → Rat) (a b : zI) : AV := .tup 2 (zw [.str (zt (f (zD a) (zD b))), .i 0])
def nG := te (Oo 140) (Hm (· + ·))
theorem Jq {G : List (Nat × Obj)} (hG : zN G) : zO Tryz.prog G 30 nG := pj fun a b h => by
 have := JK hG a b (YR h.1 (by decide) (by decide)) (YR h.2 (by decide) (by decide))
 obtain ⟨e1, e2⟩ := Ip (f := fun x y => x + y) (fun u v => by omega) h.1 h.2
 rw [e1, e2, l9 h.1.parts.2.2 h.2.parts.2.2] at this
 exact this
def U5 := te (Oo 140) (Hm (· * ·))
theorem Sg {G : List (Nat × Obj)} (hG : zN G) : zO Tryz.prog G 40 U5 := pj fun a b h => by
 have := J4 hG a b (YR h.1 (by decide) (by decide)) (YR h.2 (by decide) (by decide))
 obtain ⟨m1, m2, m3, m4⟩ := uO h.1 h.2
 have e1 : tj a b = 0 := by
  unfold tj
  rw [h.1.1, h.2.1, xF m3 (by decide) (by decide), xF m4 (by decide) (by decide)]
  rfl
 have e2 : pQ a b = zt (zD a * zD b) := by
  unfold pQ
  rw [e1]
  show ZW _ _ = _
  rw [Yf _ (Nat.mul_pos h.1.parts.2.2 h.2.parts.2.2), LL]
 rw [e1, e2] at this
 exact this
def W9 (p q : Rat) : Int := if p < q then -1 else if p = q then 0 else 1
theorem O4 {a b : zI} (ha : zG a = 0) (hb : zG b = 0) : xL (zj a * (zn b : Int)) (zj b * (zn a : Int)) = W9 (zD a) (zD b) := by
 have h1 : zD a < zD b ↔ zj a * (zn b : Int) < zj b * (zn a : Int) := by rw [Rat.lt_iff, (Z1 ha).1, (Z1 ha).2, (Z1 hb).1, (Z1 hb).2]
 have h2 : zD a = zD b ↔ zj a * (zn b : Int) = zj b * (zn a : Int) := by rw [Rat.eq_iff_mul_eq_mul, (Z1 ha).1, (Z1 ha).2, (Z1 hb).1, (Z1 hb).2]
 unfold xL W9
 generalize zj a * (zn b : Int) = x at *
 generalize zj b * (zn a : Int) = y at *
 by_cases h : x < y
 ·rw [(zp _ _).2 h, if_pos (h1.2 h)]; rfl
 ·rw [show zF x y = false from Bool.eq_false_iff.2 fun e => h ((zp _ _).1 e), if_neg fun e => h (h1.1 e)]
  by_cases h3 : x = y
  ·rw [if_pos (h2.2 h3), h3, beq_self_eq_true]; rfl
  ·rw [if_neg fun e => h3 (h2.1 e), beq_eq_false_iff_ne.2 h3]; rfl
def qY := te (Oo 140) fun a b => .tup 2 (zw [.i (W9 (zD a) (zD b)), .i 0])
theorem Mn {G : List (Nat × Obj)} (hG : zN G) : zO Tryz.prog G 29 qY := pj fun a b h => by
 have := K3 hG a b (YR h.1 (by decide) (by decide)) (YR h.2 (by decide) (by decide))
 obtain ⟨m1, m2, m3, m4⟩ := uO h.1 h.2
 have e1 : Vy a b = 0 := by
  unfold Vy
  rw [h.1.1, h.2.1, xF m1 (by decide) (by decide), xF m2 (by decide) (by decide)]
  rfl
 have e2 : Rc a b = W9 (zD a) (zD b) := by
  unfold Rc
  rw [e1]
  exact O4 h.1.1 h.2.1
 rw [e1, e2] at this
 exact this
def Qb (c : zI → Prop) (r : zI → AV) : List AV → Option (List zk × AV)
 | [.str a] => some ([.p (c a)], r a)
 | _ => none
theorem KE {P : Program} {G : List (Nat × Obj)} {f : FuncId} {c : zI → Prop} {r : zI → AV} (h : ∀ a, c a → zU P G f [.str a] (r a)) : zO P G f (Qb c r) := by
 intro xs ps r' e hp
 unfold Qb at e
 split at e
 ·cases e
  exact h _ (hp _ List.mem_cons_self)
 ·cases e
def Sa := Qb (Yk 300) fun _ => .i 0
theorem Qj {G : List (Nat × Obj)} (hG : zN G) : zO Tryz.prog G 43 Sa := KE fun a h => by
 have := jD hG a (YR h (by decide) (by decide))
 rw [h.1] at this
 exact this
theorem oC {a : zI} (h : zG a = 0) : zL a = Lib.itoa (zD a).num ∧ yy a = Lib.itoa ((zD a).den : Int) := by
 obtain ⟨v1, v2, v3, v4⟩ := ML h
 rw [(Z1 h).1, (Z1 h).2, ← v3, ← v4, YD (yS.1 v1).1, YD (yS.1 v2).1]
 exact ⟨rfl, rfl⟩
theorem O7 (G : List (Nat × Obj)) (a : List UInt8) (hl : a.length ≤ 9223372036854775807) :
 Zv [AV.str a] → lN a ≤ nX ∧ 3 = lN [AV.junk, AV.junk, AV.junk] ∧ ((True ∧ (bif zG a == iZ then zL a else []) = bif zG a == iZ then zL a else []) ∧ (bif zG a == iZ then yy a else []) = bif zG a == iZ then yy a else []) ∧ kI ∧ zG a = zG a := by
 delta nX kI lN iZ
 intro hb
 simp only [sS, dS]
 exact ⟨hl, rfl⟩
theorem kW {G : List (Nat × Obj)} (hG : zN G) (a : List UInt8) (hl : a.length ≤ 9223372036854775807) : zU Tryz.prog G 85 [.str a] (.tup 3 (zw [.str (bif zG a == 0 then zL a else []), .str (bif zG a == 0 then yy a else []), .i (zG a)])) :=
 zW (T := (WA G).plus 57 wv) (an := .auto) mixed (zz.plus zo (vL hG)) (Eq.mp (by kernel_rfl) (O7 G a hl))
def SV := Qb (Yk 300) fun a => .tup 3 (zw [.str (Lib.itoa (zD a).num), .str (Lib.itoa ((zD a).den : Int)), .i 0])
theorem qq {G : List (Nat × Obj)} (hG : zN G) : zO Tryz.prog G 85 SV := KE fun a h => by
 have := kW hG a (YR h (by decide) (by decide))
 obtain ⟨e1, e2⟩ := oC h.1
 rw [h.1] at this
 simp only [beq_self_eq_true, cond_true] at this
 rw [e1, e2] at this
 exact this
def NM : List AV → Option (List zk × AV)
 | [.agg 2 p_x, .agg 2 p_y] => some ([.b (YA (p_x 0) && YA (p_x 1)), .b (YA (p_y 0) && YA (p_y 1)), .p (tq (⟨AV.int (p_x 0), AV.int (p_x 1)⟩ : Nt)), .p (tq (⟨AV.int (p_y 0), AV.int (p_y 1)⟩ : Nt))], xR (⟨(⟨AV.int (p_x 0), AV.int (p_x 1)⟩ : Nt).n * (⟨AV.int (p_y 0), AV.int (p_y 1)⟩ : Nt).d, (⟨AV.int (p_x 0), AV.int (p_x 1)⟩ : Nt).d * (⟨AV.int (p_y 0), AV.int (p_y 1)⟩ : Nt).n⟩ : Nt))
 | _ => none
theorem Jf (x : Nt) (y : Nt) (h1 : tq x) (h2 : tq y) :
 Zv [AV.agg 2 (zS.enc x), AV.agg 2 (zS.enc y)] → bF (dK (Nt.n x * Nt.d y)) (bF (dK (Nt.d x * Nt.n y)) (2 = 2 ∧ (kI ∧ Nt.n x * Nt.d y = Nt.n (Nt.mk (Nt.n x * Nt.d y) (Nt.d x * Nt.n y))) ∧ kI ∧ Nt.d x * Nt.n y = Nt.d (Nt.mk (Nt.n x * Nt.d y) (Nt.d x * Nt.n y)))) := by
 delta bF dK kI
 intro hb
 simp only [sS, dS]
 unfold tq at h1 h2
 have m1 := Yt (a := x.n) (b := y.d) h1.1 ⟨by omega, h2.2.2⟩
 have m3 := Yt (a := x.d) (b := y.n) ⟨by omega, h1.2.2⟩ h2.1
 exact ⟨⟨by omega, by omega⟩, ⟨by omega, by omega⟩⟩
theorem Ie (x : Nt) (y : Nt) (h1 : tq x) (h2 : tq y) : zU Tryz.prog [] 104 [xR x, xR y] (xR (⟨x.n * y.d, x.d * y.n⟩ : Nt)) :=
 zW (T := T0) (an := .auto) mixed zo (Eq.mp (by kernel_rfl) (Jf x y h1 h2))
theorem ic : zO Tryz.prog [] 104 NM := by
 intro xs ps r h hp
 unfold NM at h
 split at h
 ·skip
  rename_i p_x p_y
  cases h
  obtain ⟨q0, q1, q2, q3, -⟩ := ZH hp
  exact weaken (ys := [xR (⟨AV.int (p_x 0), AV.int (p_x 1)⟩ : Nt), xR (⟨AV.int (p_y 0), AV.int (p_y 1)⟩ : Nt)]) ⟨Zt (x := .agg 2 p_x) (α := Nt) q0, Zt (x := .agg 2 p_y) (α := Nt) q1, trivial⟩ (Ie (⟨AV.int (p_x 0), AV.int (p_x 1)⟩ : Nt) (⟨AV.int (p_y 0), AV.int (p_y 1)⟩ : Nt) q2 q3)
 ·cases h
noncomputable def gb (G : List (Nat × Obj)) : Tb := (((WA G).plus 78 vW).plus 79 VG).body Tryz.prog [(58, .auto)]
theorem oY {G : List (Nat × Obj)} (hG : zN G) : zz Tryz.prog (gb G) := zz.body mixed (zz.plus (zz.plus zo (U2 hG)) (sP hG)) _
def NO : List AV → Option (List zk × AV)
 | [.agg 2 p_x, .agg 2 p_y] => some ([.b (ZK (p_x 0) && ZK (p_x 1)), .b (ZK (p_y 0) && ZK (p_y 1)), .p (tN (⟨AV.bytes (p_x 0), AV.bytes (p_x 1)⟩ : Pt)), .p (tN (⟨AV.bytes (p_y 0), AV.bytes (p_y 1)⟩ : Pt)), .p (zX (⟨AV.bytes (p_y 0), AV.bytes (p_y 1)⟩ : Pt).n ≠ 0), .p (ZM (zX (⟨AV.bytes (p_x 0), AV.bytes (p_x 1)⟩ : Pt).n * zX (⟨AV.bytes (p_y 0), AV.bytes (p_y 1)⟩ : Pt).d) = 0), .p (ZM (zX (⟨AV.bytes (p_y 0), AV.bytes (p_y 1)⟩ : Pt).n * zX (⟨AV.bytes (p_x 0), AV.bytes (p_x 1)⟩ : Pt).d) = 0)], .tup 2 (zw [.str (xt (zX (⟨AV.bytes (p_x 0), AV.bytes (p_x 1)⟩ : Pt).n * zX (⟨AV.bytes (p_y 0), AV.bytes (p_y 1)⟩ : Pt).d) (zX (⟨AV.bytes (p_y 0), AV.bytes (p_y 1)⟩ : Pt).n * zX (⟨AV.bytes (p_x 0), AV.bytes (p_x 1)⟩ : Pt).d)), .i 0]))
 | _ => none
theorem Jj (G : List (Nat × Obj)) (x : Pt) (y : Pt) (h1 : tN x) (h2 : tN y) (h3 : zX y.n ≠ 0) (h4 : ZM (zX x.n * zX y.d) = 0) (h5 : ZM (zX y.n * zX x.d) = 0) :
 let q1 := (True ∧ bA #[] = xt (zX (Pt.n x) * zX (Pt.d y)) (zX (Pt.n y) * zX (Pt.d x))); let q2 := (YB (fun (x1 x2 : Int) => x1 * x2) (Pt.n x) (Pt.d y) != iZ); let q3 := (bA #[]); let q4 := (zX q3); let q5 := (y8 (fun (x1 x2 : Int) => x1 * x2) (Pt.n x) (Pt.d y)); let q6 := (y8 (fun (x1 x2 : Int) => x1 * x2) (Pt.n y) (Pt.d x)); Zv [AV.agg 2 (zS.enc x), AV.agg 2 (zS.enc y)] → zZ (Pt.n y == bA #[(48 : UInt8)]) (j2
 ∧ q1 ∧ kI ∧ (12 : Int) = iZ) (lN (Pt.n x) ≤ nM ∧ lN (Pt.d y) ≤ nM ∧ zZ q2 (zZ q2 (j2 ∧ q1 ∧ kI ∧ YB (fun (x1 x2 : Int) => x1 * x2) (Pt.n x) (Pt.d y) = iZ) (ZR q3 = iZ ∧ ZR q3 = iZ ∧ zX q3 ≠ iZ ∧ j2 ∧ (True ∧ xt q4 q4 = xt (zX (Pt.n x) * zX (Pt.d y)) (zX (Pt.n y) * zX (Pt.d x))) ∧ kI ∧ iZ = iZ)) (lN (Pt.n y) ≤ nM ∧ lN (Pt.d x) ≤ nM ∧ zZ (YB
 (fun (x1 x2 : Int) => x1 * x2) (Pt.n y) (Pt.d x) != iZ) (j2 ∧ q1 ∧ kI ∧ YB (fun (x1 x2 : Int) => x1 * x2) (Pt.n y) (Pt.d x) = iZ) (ZR q5 = iZ ∧ ZR q6 = iZ ∧ zX q6 ≠ iZ ∧ j2 ∧ (True ∧ xt (zX q5) (zX q6) = xt (zX (Pt.n x) * zX (Pt.d y)) (zX (Pt.n y) * zX (Pt.d x))) ∧ kI ∧ iZ = iZ))) := by
 delta bA nM kI j2 lN iZ
 dsimp only
 intro hb
 simp only [sS, dS]
 obtain ⟨a1, a2, a3⟩ := h1
 obtain ⟨b1, b2, b3⟩ := h2
 have l1 := (yt a1).2.1
 have l2 := (yt a2).2.1
 have l3 := (yt b1).2.1
 have l4 := (yt b2).2.1
 obtain ⟨p1, p2⟩ := wx (f := fun x1 x2 => x1 * x2) a1 b2
 obtain ⟨p3, p4⟩ := wx (f := fun x1 x2 => x1 * x2) b1 a2
 obtain ⟨r1, r2, r3⟩ := w8 h4
 obtain ⟨r4, r5, r6⟩ := w8 h5
 rw [p1, p2, p3, p4, h4, h5, r2, r5]
 refine zY.2 ⟨fun c => absurd (by rw [eq_of_beq c]; decide) h3, fun _ => ⟨by omega, by omega, fun h => absurd rfl h, fun _ => ⟨by omega, by omega, fun h => absurd rfl h, fun _ => ⟨r1, r4, Int.mul_ne_zero h3 a3, rfl, rfl⟩⟩⟩⟩
theorem Hx {G : List (Nat × Obj)} (hG : zN G) (x : Pt) (y : Pt) (h1 : tN x) (h2 : tN y) (h3 : zX y.n ≠ 0) (h4 : ZM (zX x.n * zX y.d) = 0) (h5 : ZM (zX y.n * zX x.d) = 0) : zU Tryz.prog G 105 [xR x, xR y] (.tup 2 (zw [.str (xt (zX x.n * zX y.d) (zX y.n * zX x.d)), .i 0])) :=
 zW (T := gb G) (an := .auto) mixed (oY hG) (Eq.mp (by kernel_rfl) (Jj G x y h1 h2 h3 h4 h5))
theorem hJ {G : List (Nat × Obj)} (hG : zN G) : zO Tryz.prog G 105 NO := by
 intro xs ps r h hp
 unfold NO at h
 split at h
 ·skip
  rename_i p_x p_y
  cases h
  obtain ⟨q0, q1, q2, q3, q4, q5, q6, -⟩ := ZH hp
  exact weaken (ys := [xR (⟨AV.bytes (p_x 0), AV.bytes (p_x 1)⟩ : Pt), xR (⟨AV.bytes (p_y 0), AV.bytes (p_y 1)⟩ : Pt)]) ⟨Zt (x := .agg 2 p_x) (α := Pt) q0, Zt (x := .agg 2 p_y) (α := Pt) q1, trivial⟩ (Hx hG (⟨AV.bytes (p_x 0), AV.bytes (p_x 1)⟩ : Pt) (⟨AV.bytes (p_y 0), AV.bytes (p_y 1)⟩ : Pt) q2 q3 q4 q5 q6)
 ·cases h
noncomputable def gC (G : List (Nat × Obj)) : Tb := (((((WA G).plus 57 wv).plus 55 VW).plus 101 Si).plus 104 NM).plus 105 NO |>.body Tryz.prog [(60, .auto), (62, .auto)]
theorem OW {G : List (Nat × Obj)} (hG : zN G) : zz Tryz.prog (gC G) :=
 zz.body mixed (zz.plus (zz.plus (zz.plus (zz.plus (zz.plus zo (vL hG)) (zO.mono sx)) (Mq hG)) (zO.mono ic)) (hJ hG)) _
theorem II {a b : zI} (ha : Yk 140 a) (hb : Yk 140 b) (hp : zD b ≠ 0) : zj b ≠ 0 ∧ (zn a : Int) * zj b ≠ 0 ∧ xt (zj a * (zn b : Int)) (zj b * (zn a : Int)) = zt (zD a / zD b) := by
 have h0 : zj b ≠ 0 := fun e => hp (by unfold zD; rw [e]; exact Rat.zero_mkRat _)
 have da := ha.parts.2.2
 have db := hb.parts.2.2
 refine ⟨h0, Int.mul_ne_zero (by omega) h0, ?_⟩
 rw [Ku (Int.mul_ne_zero h0 (by omega))]
 congr 1
 unfold zD
 rw [Rat.mkRat_eq_div, Rat.mkRat_eq_div, Rat.intCast_mul, Rat.intCast_mul, Rat.intCast_natCast, Rat.intCast_natCast]
 have e1 : ((zn a : Nat) : Rat) ≠ 0 := fun e => by have := Rat.natCast_eq_zero_iff.1 e; omega
 have e2 : ((zn b : Nat) : Rat) ≠ 0 := fun e => by have := Rat.natCast_eq_zero_iff.1 e; omega
 have e3 : ((zj b : Int) : Rat) ≠ 0 := fun e => h0 (Rat.intCast_eq_zero_iff.1 e)
 grind
theorem Ma (G : List (Nat × Obj)) (a : List UInt8) (b : List UInt8) (ha : Yk 140 a) (hc : Yk 140 b) (hp : zD b ≠ 0) :
 let q2 := (True ∧ bA #[] = zt (zD a / zD b)); let q6 := (Value.agg #[Value.string (ByteArray.mk #[]), Value.string (ByteArray.mk #[])]); let q5 := (fun (i : Nat) => if 0 ≤ i ∧ i < 0 + 2 then zw [AV.str (bif zG a == iZ then zL a else []), AV.str (bif zG a == iZ then yy a else [])] (i - 0) else Z3 q6 i); let q4 := (Pt.mk (AV.bytes (q5 0)) (AV.bytes (q5 1))); let q3 := (Pt.n q4); let q7 := (Pt.d q4); let q10 := (fun (i : Nat) => if 0 ≤ i ∧ i < 0 + 2 then zw [AV.str (bif zG b == iZ then zL b else []), AV.str
 (bif zG b == iZ then yy b else [])] (i - 0) else Z3 q6 i); let q9 := (Pt.mk (AV.bytes (q10 0)) (AV.bytes (q10 1))); let q8 := (Pt.n q9); let q11 := (Pt.d q9); let q12 := (zX q3 * zX q11); let q13 := (zX q8 * zX q7); let q1 := (lN a ≤ nX ∧ zZ (zG a != iZ) (j2 ∧ q2 ∧ kI ∧ zG a = iZ) (lN b ≤ nX ∧ zZ (zG b != iZ) (j2 ∧ q2 ∧ kI ∧ zG b = iZ) ((ZR q3 = iZ ∧ ZR q7 = iZ ∧
 zX q7 ≠ iZ) ∧ (ZR q8 = iZ ∧ ZR q11 = iZ ∧ zX q11 ≠ iZ) ∧ zX q8 ≠ iZ ∧ ZM q12 = iZ ∧ ZM q13 = iZ ∧ j2 ∧ (True ∧ xt q12 q13 = zt (zD a / zD b)) ∧ kI ∧ iZ = iZ))); let q16 := (Value.agg #[Value.int .i64 iZ, Value.int .i64 iZ]); let q15 := (fun (i : Nat) => if 0 ≤ i ∧ i < 0 + 2 then zw [AV.i (bif Zy a then zj a else iZ), AV.i (bif Zy a then (cI (zn a)) else iZ)] (i - 0) else Z3 q16 i); let q14 := (Nt.mk (AV.int (q15 0))
 (AV.int (q15 1))); let q18 := (fun (i : Nat) => if 0 ≤ i ∧ i < 0 + 2 then zw [AV.i (bif Zy b then zj b else iZ), AV.i (bif Zy b then (cI (zn b)) else iZ)] (i - 0) else Z3 q16 i); let q17 := (Nt.mk (AV.int (q18 0)) (AV.int (q18 1))); let q20 := (Nt.mk (Nt.n q14 * Nt.d q17) (Nt.d q14 * Nt.n q17)); let q19 := (Nt.mk (AV.int (aI (Nt.n q20))) (AV.int (aI (Nt.d q20)))); Zv [AV.str a, AV.str b] → zZ (!b == bA #[(48 : UInt8)]) (lN a ≤ nX ∧ zZ (!Zy a) q1
 (lN b ≤ nX ∧ zZ (!Zy b) q1 ((((-99999999 : Int) ≤ Nt.n q14 ∧ Nt.n q14 ≤ (99999999 : Int)) ∧ iZ < Nt.d q14 ∧ Nt.d q14 ≤ (99999999 : Int)) ∧ (((-99999999 : Int) ≤ Nt.n q17 ∧ Nt.n q17 ≤ (99999999 : Int)) ∧ iZ < Nt.d q17 ∧ Nt.d q17 ≤ (99999999 : Int)) ∧ Nt.d q19 ≠ iZ ∧ ((-1000000000000000000 : Int) ≤ Nt.d q19 ∧ Nt.d q19 ≤ (1000000000000000000 : Int)) ∧ ((-1000000000000000000 : Int) ≤ Nt.n q19 ∧ Nt.n q19 ≤ (1000000000000000000 : Int)) ∧ j2 ∧ (True ∧ xt (Nt.n q19) (Nt.d q19) = zt (zD a / zD b)) ∧ IntKind.i64 =
 .i64 ∧ iZ = iZ))) q1 := by
 delta bA nX cI kI j2 lN iZ aI
 dsimp only
 intro hb
 simp only [sS, dS]
 obtain ⟨n0, n1, n2⟩ := II ha hc hp
 have h0 : (b == [48]) = false := beq_eq_false_iff_ne.2 fun e => by subst e; exact n0 (by decide)
 have la := YR ha (by decide) (by decide)
 have lb := YR hc (by decide) (by decide)
 obtain ⟨m1, m2, m3, m4⟩ := uO ha hc
 have p1 := VL ha.1
 have p2 := VL hc.1
 obtain ⟨_, _, v1, v2⟩ := ML ha.1
 obtain ⟨_, _, v3, v4⟩ := ML hc.1
 have r1 := xF m1 (by decide) (by decide)
 have r2 := xF m2 (by decide) (by decide)
 have q3 : zX (zL b) ≠ 0 := by rw [v3]; exact n0
 have q4 : ZM (zX (zL a) * zX (yy b)) = 0 := by rw [v1, v4]; exact r1
 have q5 : ZM (zX (zL b) * zX (yy a)) = 0 := by rw [v3, v2]; exact r2
 have q6 : xt (zX (zL a) * zX (yy b)) (zX (zL b) * zX (yy a)) = zt (zD a / zD b) := by rw [v1, v2, v3, v4]; exact n2
 rw [h0]
 refine zY.2 ⟨fun _ => ⟨la, zY.2 ⟨fun c => ?_, fun c => ⟨lb, zY.2 ⟨fun c2 => ?_, fun c2 => ?_⟩⟩⟩⟩, fun c => by cases c⟩
 rotate_left 2
 ·rw [Bool.not_eq_false'] at c c2
  obtain ⟨a1, a2, a3⟩ := yE c
  obtain ⟨b1, b2, b3⟩ := yE c2
  have w1 := Yt (a := zj a) (b := (zn b : Int)) ⟨by omega, by omega⟩ ⟨by omega, by omega⟩
  have w2 := Yt (a := (zn a : Int)) (b := zj b) ⟨by omega, by omega⟩ ⟨by omega, by omega⟩
  rw [c, c2]
  simp only [cond_true]
  have w3 : -1000000000000000000 ≤ (zn a : Int) * zj b ∧ (zn a : Int) * zj b ≤ 1000000000000000000 := ⟨by omega, by omega⟩
  have w4 : -1000000000000000000 ≤ zj a * (zn b : Int) ∧ zj a * (zn b : Int) ≤ 1000000000000000000 := ⟨by omega, by omega⟩
  rw [Int.mul_comm (zj b)] at n2
  exact ⟨To c, To c2, n1, w3, w4, rfl, n2⟩
 all_goals
  rw [ha.1, hc.1]
  exact ⟨la, fun h => absurd rfl h, fun _ => ⟨lb, fun h => absurd rfl h, fun _ => ⟨p1, p2, q3, q4, q5, rfl, q6⟩⟩⟩
theorem JW {G : List (Nat × Obj)} (hG : zN G) (a : List UInt8) (b : List UInt8) (ha : Yk 140 a) (hc : Yk 140 b) (hp : zD b ≠ 0) : zU Tryz.prog G 66 [.str a, .str b] (.tup 2 (zw [.str (zt (zD a / zD b)), .i 0])) :=
 zW (T := gC G) (an := .auto) mixed (OW hG) (Eq.mp (by kernel_rfl) (Ma G a b ha hc hp))
structure HU (a b : zI) : Prop where
 fa : Yk 140 a
 fb : Yk 140 b
 ne : zD b ≠ 0
def nF := te HU (Hm (· / ·))
theorem jP {G : List (Nat × Obj)} (hG : zN G) : zO Tryz.prog G 66 nF := pj fun a b h => JW hG a b h.1 h.2 h.3
end Go.Te

namespace Go.Te
open Go Go.Sx Go.Proofs Go.Ar Go.RowKit
set_option maxRecDepth 100000
set_option maxHeartbeats 4000000
def ni : List AV → Option (List zk × AV)
 | [.v (.int .i64 n), .v (.int .i64 d)] => some ([.p (-10000000000000000 ≤ n ∧ n ≤ 10000000000000000), .p (0 < d ∧ d ≤ 10000000000000000)], .tup 2 (zw [.str (ZW n d.toNat), .i 0]))
 | _ => none
theorem iu (G : List (Nat × Obj)) (n : Int) (d : Int) (hn : -10000000000000000 ≤ n ∧ n ≤ 10000000000000000) (hd : 0 < d ∧ d ≤ 10000000000000000) :
 Zv [aI n, aI d] → zZ (d == iZ) (j2 ∧ (True ∧ bA #[] = ZW n (Int.toNat d)) ∧ kI ∧ (12 : Int) = iZ) (zZ (d == iO) ((iN ≤ n ∧ n ≤ iX) ∧ j2 ∧ (True ∧ Lib.itoa n = ZW n (Int.toNat d)) ∧ kI ∧ iZ = iZ) ((iN ≤ n ∧ n ≤ iX) ∧ (iN ≤ d ∧ d ≤
 iX) ∧ ZR (Lib.itoa n) = iZ ∧ ZR (Lib.itoa d) = iZ ∧ zX (Lib.itoa d) ≠ iZ ∧ j2 ∧ (True ∧ xt (zX (Lib.itoa n)) (zX (Lib.itoa d)) = ZW n (Int.toNat d)) ∧ kI ∧ iZ = iZ)) := by
 delta bA kI j2 iZ iO iX iN aI
 intro hb
 simp only [sS, dS]
 have key : ∀ m : Int, m.natAbs ≤ 10000000000000000 → ZR (Lib.itoa m) = 0 := fun m hm => by
  rw [YS]
  exact xF (k := 17) (Nat.lt_of_le_of_lt hm (by decide)) (by decide) (by decide)
 have hs : xt (zX (Lib.itoa n)) (zX (Lib.itoa d)) = ZW n d.toNat := by
  rw [(za n).2, (za d).2]
  unfold xt
  rw [show zF d 0 = false from Bool.eq_false_iff.2 fun e => by have := (zp _ _).1 e; omega]; rfl
 rw [hs]
 exact ⟨fun h => by omega, fun _ => ⟨fun h => ⟨⟨by omega, by omega⟩, rfl, by rw [h]; exact OZ.symm⟩, fun _ => ⟨⟨by omega, by omega⟩, ⟨by omega, by omega⟩, key n (by omega), key d (by omega), by rw [(za d).2]; omega, rfl, rfl⟩⟩⟩
theorem IG {G : List (Nat × Obj)} (hG : zN G) (n : Int) (d : Int) (hn : -10000000000000000 ≤ n ∧ n ≤ 10000000000000000) (hd : 0 < d ∧ d ≤ 10000000000000000) : zU Tryz.prog G 50 [.i n, .i d] (.tup 2 (zw [.str (ZW n d.toNat), .i 0])) :=
 zW (T := (oQ G).plus 79 VG) (an := .auto) mixed (zz.plus (yO hG) (sP hG)) (Eq.mp (by kernel_rfl) (iu G n d hn hd))
theorem I4 {G : List (Nat × Obj)} (hG : zN G) : zO Tryz.prog G 50 ni := by
 intro xs ps r h hp
 unfold ni at h
 split at h
 ·skip
  rename_i n d
  cases h
  obtain ⟨q0, q1, -⟩ := ZH hp
  exact weaken (ys := [.i n, .i d]) ⟨zT _, zT _, trivial⟩ (IG hG n d q0 q1)
 ·cases h
def R5 : List AV → Option (List zk × AV)
 | [.v (.int .u64 x)] => some ([.p (0 ≤ x ∧ x ≤ 18446744073709551615)], .i (Lib.bitLen x.toNat))
 | _ => none
theorem Jn : zO Tryz.prog [] 88 R5 := by
 intro xs ps r h hp
 unfold R5 at h
 split at h
 ·rename_i x
  cases h
  have q : 0 ≤ x ∧ x ≤ 18446744073709551615 := hp _ List.mem_cons_self
  refine ⟨enters_of Tryz.func88 (by kernel_rfl) rfl, fun w S vals hS hg hr => ?_⟩
  match vals, hr with
  | [v], ⟨hv, _⟩ =>
  obtain rfl := ZS hv
  refine (Tryz.bits_Len x w q.1 q.2).mono ?_
  rintro e w' ⟨rfl, rfl⟩
  exact ⟨⟨Below.refl _ _, Nat.le_refl _⟩, _, rfl, .v _⟩
 ·cases h
theorem KH : ∀ (f x : Nat), x < 2 ^ f → x < 2 ^ Lib.bitLenAux f x ∧ (x ≠ 0 → 2 ^ Lib.bitLenAux f x ≤ 2 * x) ∧ (x = 0 → Lib.bitLenAux f x = 0)
 | 0, x, h => by
  have : x = 0 := by simpa using h
  subst this
  exact ⟨by decide, fun h => absurd rfl h, fun _ => rfl⟩
 | f + 1, x, h => by
  unfold Lib.bitLenAux
  split
  ·rename_i h0
   exact ⟨by rw [h0]; decide, fun h1 => absurd h0 h1, fun _ => rfl⟩
  ·rename_i h0
   obtain ⟨h1, h2, h3⟩ := KH f (x / 2) (by rw [Nat.pow_succ] at h; omega)
   rw [Nat.pow_add]
   refine ⟨by omega, fun _ => ?_, fun e => absurd e h0⟩
   by_cases hx : x / 2 = 0
   ·rw [h3 hx]; omega
   ·have := h2 hx
    omega
theorem Hg {x : Nat} (h0 : x ≠ 0) (h : x ≤ 1000000000000000000) : x < 2 ^ Lib.bitLen x ∧ Lib.bitLen x ≤ 60 := by
 obtain ⟨h1, h2, _⟩ := KH 64 x (Nat.lt_of_le_of_lt h (by decide))
 refine ⟨h1, Nat.le_of_not_lt fun hl => ?_⟩
 have := h2 h0
 have h3 : 2 ^ 61 ≤ 2 ^ Lib.bitLenAux 64 x := Nat.pow_le_pow_right (by omega) hl
 have h4 : 2 ^ 61 = 2305843009213693952 := by decide
 omega
def nR (n : Int) : yq :=
 .two .auto (.two .auto (.two .auto (.one (.loop Nat (fun σ z => [(0, σ.tm 0), (3, .i (z : Int))]) (fun σ z => []) 0 (fun σ z => 0 < z ∧ z ≤ 4294967296 ∧ n.toNat < (z + 1) * (z + 1)) (fun σ z => z) .auto))))
def un : List AV → Option (List zk × AV)
 | [.v (.int .i64 n)] => some ([.p (0 ≤ n ∧ n ≤ 1000000000000000000)], .i (y6 n.toNat : Int))
 | _ => none
theorem NU (n : Int) (h : 0 ≤ n ∧ n ≤ 1000000000000000000) :
 Zv [aI n] → zZ (zF n (2 : Int)) (kI ∧ n = (cI (y6 (Int.toNat n)))) (bF (DB.db (ZA IntKind.u64 n)) ((iZ ≤ n ∧ n ≤ (18446744073709551615 : Int)) ∧ bF (dK ((cI (Lib.bitLen (Int.toNat n))) + iO)) (bF (DB.db (ZA .i64 (Int.tdiv ((cI (Lib.bitLen (Int.toNat n))) + iO) (2 : Int)))) ((∃ (z : Nat), ((0 < z ∧ z ≤ 4294967296 ∧ Int.toNat n < (z + 1) * (z + 1)) ∧ (kI ∧ n = n) ∧ kI ∧ IntKind.wrap IntKind.i64 (iO * (2 : Int) ^ min (Int.toNat (Int.tdiv ((cI (Lib.bitLen
 (Int.toNat n))) + iO) (2 : Int))) 64) = (cI z)) ∧ True) ∧ ∀ (z : Nat), 0 < z ∧ z ≤ 4294967296 ∧ Int.toNat n < (z + 1) * (z + 1) → bF (DB.db ((cI z) ≠ iZ)) (bF (dK (Int.tdiv n (cI z))) (bF (dK ((cI z) + Int.tdiv n (cI z))) (bF (dK (Int.tdiv ((cI z) + Int.tdiv n (cI z)) (2 : Int))) (zZ (leB (cI z) (Int.tdiv ((cI z) + Int.tdiv n (cI z)) (2 : Int))) (kI ∧ (cI z) = (cI (y6 (Int.toNat n)))) (∃ (z' : Nat), (((0 < z' ∧ z' ≤ 4294967296 ∧ Int.toNat n < (z' +
 1) * (z' + 1)) ∧ z' < z) ∧ (kI ∧ n = n) ∧ kI ∧ Int.tdiv ((cI z) + Int.tdiv n (cI z)) (2 : Int) = (cI z')) ∧ True))))))))) := by
 delta bF dK cI kI iZ iO aI
 intro hb
 simp only [sS, dS]
 obtain ⟨m, rfl⟩ : ∃ m : Nat, n = m := ⟨n.toNat, by omega⟩
 rw [Int.toNat_natCast]
 refine ⟨fun hs => ?_, fun hs => ?_⟩
 ·have : m = 0 ∨ m = 1 := by omega
  rcases this with rfl | rfl <;> decide +kernel
 obtain ⟨b1, b2⟩ := Hg (x := m) (by omega) (by omega)
 have hm64 : m < 18446744073709551616 := by omega
 obtain ⟨s1, s2⟩ := xh hm64
 have hk : ((Lib.bitLen m : Int) + 1).tdiv 2 = (((Lib.bitLen m + 1) / 2 : Nat) : Int) := by
  rw [Int.tdiv_eq_ediv_of_nonneg (by omega)]; omega
 have hp : 2 ^ ((Lib.bitLen m + 1) / 2) ≤ 2 ^ 31 := Nat.pow_le_pow_right (by omega) (by omega)
 have hp2 : 2 ^ Lib.bitLen m ≤ 2 ^ ((Lib.bitLen m + 1) / 2) * 2 ^ ((Lib.bitLen m + 1) / 2) := by
  rw [← Nat.pow_add]
  exact Nat.pow_le_pow_right (by omega) (by omega)
 have hp0 : 0 < 2 ^ ((Lib.bitLen m + 1) / 2) := Nat.pow_pos (by omega)
 have h31 : 2 ^ 31 = 2147483648 := by decide
 rw [hk, Int.toNat_natCast, show min ((Lib.bitLen m + 1) / 2) 64 = (Lib.bitLen m + 1) / 2 by omega, Int.one_mul, show ((2 : Int) ^ ((Lib.bitLen m + 1) / 2)) = ((2 ^ ((Lib.bitLen m + 1) / 2) : Nat) : Int) by rw [Int.natCast_pow]; rfl]
 generalize 2 ^ ((Lib.bitLen m + 1) / 2) = z0 at *
 refine ⟨by simp only [ZA]; omega, ⟨by omega, by omega⟩, by simp only [ZA]; omega, by simp only [ZA]; omega, ⟨z0, ⟨hp0, by omega, ?_⟩, ?_⟩, fun z ⟨z1, z2, z3⟩ => ?_⟩
 ·have : (z0 + 1) * (z0 + 1) = z0 * z0 + 2 * z0 + 1 := by grind
  omega
 ·rw [wW (by simp only [ZA]; omega)]
 have e1 : (m : Int).tdiv (z : Int) = ((m / z : Nat) : Int) := by rw [Int.tdiv_eq_ediv_of_nonneg (by omega), Int.natCast_ediv]
 have hml : m / z ≤ m := Nat.div_le_self _ _
 have g1 := Q8 (n := m) (r := z) (s := y6 m) z1 s1
 have g2 := TJ (n := m) (r := z) z1
 have hs0 : 0 < y6 m := Nat.pos_of_ne_zero fun e => by rw [e] at s2; omega
 rw [e1]
 generalize m / z = q at *
 have e2 : ((z : Int) + (q : Int)).tdiv 2 = (((z + q) / 2 : Nat) : Int) := by rw [Int.tdiv_eq_ediv_of_nonneg (by omega)]; omega
 rw [e2]
 refine ⟨by omega, by simp only [ZA]; omega, by simp only [ZA]; omega, by simp only [ZA]; omega, fun h => ?_, fun h => ⟨(z + q) / 2, ⟨⟨by omega, by omega, ?_⟩, by omega⟩, rfl⟩⟩
 ·rw [NY hm64 (g2 (by omega)) z3]
 ·exact Nat.lt_of_lt_of_le s2 (Nat.mul_le_mul (by omega) (by omega))
theorem kK (n : Int) (h : 0 ≤ n ∧ n ≤ 1000000000000000000) : zU Tryz.prog [] 166 [.i n] (.i (y6 n.toNat : Int)) :=
 zW (T := T0.plus 88 R5) (an := nR n) mixed (zz.plus zo Jn) (Eq.mp (by kernel_rfl) (NU n h))
theorem QB : zO Tryz.prog [] 166 un := by
 intro xs ps r h hp
 unfold un at h
 split at h
 ·skip
  rename_i n
  cases h
  obtain ⟨q0, -⟩ := ZH hp
  exact weaken (ys := [.i n]) ⟨zT _, trivial⟩ (kK n q0)
 ·cases h
theorem KQ : ∀ i ∈ List.range 25, Zx (strOf (zM.getD i undef)) = true ∧ zX (strOf (zM.getD i undef)) = (yL.getD i 0 : Int) ∧ (strOf (zM.getD i undef)).length ≤ 18 := by decide
theorem OR : ∀ z ∈ List.range 25, yL.take (z + 1) = yL.take z ++ [yL.getD z 0] ∧ 2 ≤ yL.getD z 0 ∧ yL.getD z 0 < 98 := by decide
noncomputable def gH (G : List (Nat × Obj)) : Tb := (((oQ G).plus 145 VO).plus 166 un).plus 50 ni
theorem oo {G : List (Nat × Obj)} (hG : zN G) : zz Tryz.prog (gH G) := zz.plus (zz.plus (zz.plus (yO hG) (zO.mono SX)) (zO.mono QB)) (I4 hG)
def S5 (m : Nat) (z : Nat) : Nat × Nat := yJ (yL.take z) (1, m)
def nk (m : Nat) : yq :=
 .two .auto (.two .auto (.two (.two .auto (.one (.loop Nat (fun σ z => [(1, σ.tm 1), (18, σ.tm 18), (6, .i ((S5 m z).1 : Int)), (7, .i ((S5 m z).2 : Int)), (19, .i (z : Int))]) (fun σ z => []) 0 (fun σ z => z ≤ 25) (fun σ z => 25 - z) (.two .auto (.two .auto (.two (.one (.two .auto (.two .auto (.one (.loop (Nat × Nat) (fun σ z => [(1, σ.tm 1), (10, σ.tm 10), (18, σ.tm 18), (19, σ.tm 19), (6, .i (z.1 : Int)), (7, .i (z.2 : Int))]) (fun σ z => []) 0 (fun σ z => 0 < z.1 ∧ 0 < z.2 ∧ z.1 * z.1 * z.2 = m ∧ strip (AV.int (σ.tm 10)).toNat z = S5 m ((AV.int (σ.tm 19)).toNat + 1)) (fun σ z => z.2) .auto))))) .auto)))))) .auto))
theorem N2 (t : TypeId) (fr : Nat × Nat) (G : List (Nat × Obj)) (n d : Int) (hn : 0 < n) (hd : 0 < d ∧ d ≤ 10000000000000000) (hm : n * d ≤ 100000000000000000) :
 let q1 := (25 = 25 ∧ (((((((((((((((((((((((strOf (Array.getD zM (nat_lit 0) undef) = strOf (Array.getD zM (nat_lit 0) undef) ∧ strOf (Array.getD zM (nat_lit 1) undef) = strOf (Array.getD zM (nat_lit 1) undef)) ∧ strOf (Array.getD zM (nat_lit 2) undef) = strOf (Array.getD zM (nat_lit 2) undef)) ∧ strOf (Array.getD zM (nat_lit 3) undef) = strOf (Array.getD zM (nat_lit 3) undef)) ∧ strOf (Array.getD zM (nat_lit 4) undef) = strOf (Array.getD zM (nat_lit 4) undef)) ∧ strOf (Array.getD zM (nat_lit 5) undef) = strOf (Array.getD zM (nat_lit
 5) undef)) ∧ strOf (Array.getD zM (nat_lit 6) undef) = strOf (Array.getD zM (nat_lit 6) undef)) ∧ strOf (Array.getD zM (nat_lit 7) undef) = strOf (Array.getD zM (nat_lit 7) undef)) ∧ strOf (Array.getD zM (nat_lit 8) undef) = strOf (Array.getD zM (nat_lit 8) undef)) ∧ strOf (Array.getD zM (nat_lit 9) undef) = strOf (Array.getD zM (nat_lit 9) undef)) ∧ strOf (Array.getD zM (nat_lit 10) undef) = strOf (Array.getD zM (nat_lit 10) undef)) ∧ strOf (Array.getD zM (nat_lit 11) undef) = strOf (Array.getD zM (nat_lit 11) undef)) ∧ strOf
 (Array.getD zM (nat_lit 12) undef) = strOf (Array.getD zM (nat_lit 12) undef)) ∧ strOf (Array.getD zM (nat_lit 13) undef) = strOf (Array.getD zM (nat_lit 13) undef)) ∧ strOf (Array.getD zM (nat_lit 14) undef) = strOf (Array.getD zM (nat_lit 14) undef)) ∧ strOf (Array.getD zM (nat_lit 15) undef) = strOf (Array.getD zM (nat_lit 15) undef)) ∧ strOf (Array.getD zM (nat_lit 16) undef) = strOf (Array.getD zM (nat_lit 16) undef)) ∧ strOf (Array.getD zM (nat_lit 17) undef) = strOf (Array.getD zM (nat_lit 17) undef)) ∧ strOf (Array.getD zM
 (nat_lit 18) undef) = strOf (Array.getD zM (nat_lit 18) undef)) ∧ strOf (Array.getD zM (nat_lit 19) undef) = strOf (Array.getD zM (nat_lit 19) undef)) ∧ strOf (Array.getD zM (nat_lit 20) undef) = strOf (Array.getD zM (nat_lit 20) undef)) ∧ strOf (Array.getD zM (nat_lit 21) undef) = strOf (Array.getD zM (nat_lit 21) undef)) ∧ strOf (Array.getD zM (nat_lit 22) undef) = strOf (Array.getD zM (nat_lit 22) undef)) ∧ strOf (Array.getD zM (nat_lit 23) undef) = strOf (Array.getD zM (nat_lit 23) undef)) ∧ strOf (Array.getD zM (nat_lit 24) undef)
 = strOf (Array.getD zM (nat_lit 24) undef)); let q14 := (iZ < d ∧ d ≤ (10000000000000000 : Int)); let q15 := (cI (Prod.fst (nrm (Int.toNat (n * d))))); let q16 := (cI (Prod.snd (nrm (Int.toNat (n * d))))); Zv [aI n, aI d] → bF (dK (n * d)) ((∃ (z : Nat), (z ≤ 25 ∧ (kI ∧ d = d) ∧ q1 ∧ (kI ∧ iO = (cI (Prod.fst (S5 (Int.toNat (n * d)) z)))) ∧ (kI ∧ n * d = (cI (Prod.snd (S5 (Int.toNat (n * d)) z)))) ∧ kI ∧ iZ = (cI z)) ∧ True) ∧ ∀
 (z : Nat), let q2 := (strOf (Array.getD zM (Int.toNat (cI z)) undef)); let q3 := (Int.toNat (AV.int (aI (zX q2)))); let q4 := (Int.toNat (AV.int (aI (cI z))) + 1); let q5 := (kI ∧ zX q2 = zX q2); let q6 := (kI ∧ (cI z) = (cI z)); let q7 := (cI (Prod.fst (S5 (Int.toNat (n * d)) z))); let q8 := (cI (Prod.snd (S5 (Int.toNat (n * d)) z))); let q10 := (zX q2 * zX q2); let q9 := (dK q10); let q11 := (DB.db (zX q2 * zX q2 ≠ iZ)); let q12 := (↑(y6 (Int.toNat q8)) :
 Int); let q13 := (q7 * q12); z ≤ 25 → zZ (zF (cI z) (25 : Int)) (bF (DB.db (iZ ≤ (cI z) ∧ (cI z) < (↑25 : Int))) (bF (Zx q2) (lN q2 ≤ 18 ∧ (∃ (z_1 : Nat × Nat), ((0 < Prod.fst z_1 ∧ 0 < Prod.snd z_1 ∧ Prod.fst z_1 * Prod.fst z_1 * Prod.snd z_1 = Int.toNat (n * d) ∧ strip q3 z_1 = S5 (Int.toNat (n * d)) q4) ∧ (kI ∧ d = d) ∧ q5 ∧ q1 ∧ q6 ∧ (kI ∧ q7 = (cI (Prod.fst z_1))) ∧ kI ∧ q8 = (cI (Prod.snd z_1))) ∧ True) ∧ ∀ (z_1 : Nat × Nat), 0 < Prod.fst z_1 ∧ 0 < Prod.snd z_1 ∧ Prod.fst z_1 * Prod.fst z_1
 * Prod.snd z_1 = Int.toNat (n * d) ∧ strip q3 z_1 = S5 (Int.toNat (n * d)) q4 → bF q9 (bF q11 (zZ (Int.tmod (cI (Prod.snd z_1)) q10 == iZ) (bF (dK ((cI (Prod.fst z_1)) * zX q2)) (bF q9 (bF q11 (bF (dK (Int.tdiv (cI (Prod.snd z_1)) q10)) (∃ (z' : Nat × Nat), (((0 < Prod.fst z' ∧ 0 < Prod.snd z' ∧ Prod.fst z' * Prod.fst z' * Prod.snd z' = Int.toNat (n * d) ∧ strip q3 z' = S5 (Int.toNat (n * d)) q4) ∧ Prod.snd z' < Prod.snd z_1) ∧ (kI ∧ d = d) ∧ q5 ∧ q1 ∧ q6 ∧ (kI ∧ (↑(Prod.fst z_1) :
 Int) * zX q2 = (cI (Prod.fst z'))) ∧ kI ∧ Int.tdiv (cI (Prod.snd z_1)) q10 = (cI (Prod.snd z'))) ∧ True))))) (bF (dK ((cI z) + iO)) (∃ (z' : Nat), ((z' ≤ 25 ∧ 25 - z' < 25 - z) ∧ (kI ∧ d = d) ∧ q1 ∧ (kI ∧ (cI (Prod.fst z_1)) = (cI (Prod.fst (S5 (Int.toNat (n * d)) z')))) ∧ (kI ∧ (cI (Prod.snd z_1)) = (cI (Prod.snd (S5 (Int.toNat (n * d)) z')))) ∧ kI ∧ (cI z) + iO = (cI z')) ∧ True)))))))
 ((iZ ≤ q8 ∧ q8 ≤ (1000000000000000000 : Int)) ∧ bF (dK (q12 * q12)) (zZ (q12 * q12 == q8) (bF (dK q13) (((-10000000000000000 : Int) ≤ q7 * q12 ∧ q7 * q12 ≤ (10000000000000000 : Int)) ∧ q14 ∧ (iN ≤ iO ∧ iO ≤ iX) ∧ j2 ∧ (True ∧ ZW q13 (Int.toNat d) = ZW q15 (Int.toNat d)) ∧ Lib.itoa iO = Lib.itoa q16)) (((-10000000000000000 : Int) ≤ q7 ∧ q7 ≤ (10000000000000000 : Int)) ∧ q14 ∧ (iN ≤ q8 ∧ q8 ≤
 iX) ∧ j2 ∧ (True ∧ ZW q7 (Int.toNat d) = ZW q15 (Int.toNat d)) ∧ Lib.itoa q8 = Lib.itoa q16)))) := by
 delta bF dK cI kI j2 lN iZ iO iX iN aI
 dsimp only
 intro hb
 simp only [sS, dS]
 obtain ⟨N, rfl⟩ : ∃ N : Nat, n = N := ⟨n.toNat, by omega⟩
 obtain ⟨D, rfl⟩ : ∃ D : Nat, d = D := ⟨d.toNat, by omega⟩
 rw [← Int.natCast_mul] at *
 rw [Int.toNat_natCast, Int.toNat_natCast]
 have hm0 : 0 < N * D := Nat.mul_pos (by omega) (by omega)
 generalize N * D = m at *
 have hS : ∀ z, jo (1, m) (S5 m z) := fun z => (xB (yL.take z) (1, m) (fun p hp => T1 p (List.mem_of_mem_take hp)) Nat.one_pos hm0).1
 have hV : ∀ c l : Nat, 0 < c → 0 < l → c * c * l = m → c ≤ 1000000000 ∧ l ≤ m := fun c l h1 h2 h3 => by
  have h4 : c * c * 1 ≤ c * c * l := Nat.mul_le_mul_left _ h2
  have h5 : 1 * l ≤ c * c * l := Nat.mul_le_mul_right _ (Nat.mul_pos h1 h1)
  exact ⟨Nat.le_of_lt (Xc (a := c) (b := 1000000000) (by omega)), by omega⟩
 refine ⟨by simp only [ZA]; omega, ⟨0, by omega, rfl, rfl, rfl⟩, fun z hz => ⟨fun hlt => ⟨⟨by omega, hlt⟩, ?_⟩, fun hge => ?_⟩⟩
 ·obtain ⟨p1, p2, p3⟩ := KQ z (List.mem_range.2 (by omega))
  obtain ⟨t1, t2, t3⟩ := OR z (List.mem_range.2 (by omega))
  rw [p1, X6, p2, Int.toNat_natCast]
  obtain ⟨v, ⟨q1, q2⟩, _⟩ := hS z
  have hst : strip (yL.getD z 0) (S5 m z) = S5 m (z + 1) := by
   show strip _ (Ar.yJ _ _) = Ar.yJ _ _
   rw [t1, Wb]
  generalize yL.getD z 0 = p at *
  refine ⟨p3, ⟨S5 m z, ⟨q1, q2, by simpa using v, hst⟩, rfl, rfl⟩, fun y ⟨y1, y2, y3, y4⟩ => ?_⟩
  obtain ⟨c, l⟩ := y
  simp only at *
  obtain ⟨b1, b2⟩ := hV c l y1 y2 y3
  have hpp : p * p ≤ 98 * 98 := Nat.mul_le_mul (by omega) (by omega)
  have hpp2 : 2 * 2 ≤ p * p := Nat.mul_le_mul t2 t2
  have e1 : (l : Int).tmod ((p * p : Nat) : Int) = ((l % (p * p) : Nat) : Int) := by rw [Int.tmod_eq_emod_of_nonneg (by omega)]; omega
  have e2 : (l : Int).tdiv ((p * p : Nat) : Int) = ((l / (p * p) : Nat) : Int) := by rw [Int.tdiv_eq_ediv_of_nonneg (by omega), Int.natCast_ediv]
  rw [← Int.natCast_mul, e1, e2]
  have hcp : c * p ≤ 1000000000 * 98 := Nat.mul_le_mul b1 (by omega)
  have hdl : l / (p * p) ≤ l := Nat.div_le_self _ _
  refine ⟨by simp only [ZA]; omega, by omega, fun h => ?_, fun h => ⟨by simp only [ZA]; omega, z + 1, ⟨by omega, by omega⟩, ?_⟩⟩
  ·have h : l % (p * p) = 0 := by omega
   have hd := Nat.dvd_of_mod_eq_zero h
   have h2 : 0 < l / (p * p) := Nat.div_pos (Nat.le_of_dvd y2 hd) (by omega)
   refine ⟨by rw [← Int.natCast_mul]; simp only [ZA]; omega, by simp only [ZA]; omega, by omega, by simp only [ZA]; omega, (c * p, l / (p * p)), ⟨⟨Nat.mul_pos y1 (by omega), h2, ?_, by rw [← rS t2 y2 h]; exact y4⟩, Ws t2 y2⟩, by rw [Int.natCast_mul], rfl⟩
   obtain ⟨k, rfl⟩ := hd
   simp only
   rw [Nat.mul_div_cancel_left _ (by omega), ← y3]
   grind
  ·rw [QD (by omega)] at y4
   rw [← y4]
   exact ⟨rfl, rfl, by omega⟩
 ·have hz25 : z = 25 := by omega
  subst hz25
  have hN : nrm m = S8 (S5 m 25) := rfl
  obtain ⟨v, ⟨q1, q2⟩, _⟩ := hS 25
  rw [hN]
  generalize S5 m 25 = y at *
  obtain ⟨c, l⟩ := y
  simp only [Nat.one_mul] at *
  obtain ⟨b1, b2⟩ := hV c l q1 q2 v
  obtain ⟨s1, s2⟩ := xh (n := l) (by omega)
  have hr : y6 l ≤ 1000000000 := Nat.le_of_lt (Xc (a := y6 l) (b := 1000000000) (by omega))
  unfold S8
  simp only
  rw [← Int.natCast_mul, ← Int.natCast_mul]
  have hcr : c * y6 l * (c * y6 l) ≤ m := by
   have e : c * y6 l * (c * y6 l) = c * c * (y6 l * y6 l) := by grind
   rw [e, ← v]
   exact Nat.mul_le_mul_left _ s1
  have hcr2 : c * y6 l < 1000000000 := Xc (by omega)
  refine ⟨⟨by omega, by omega⟩, by simp only [ZA]; omega, fun h => ?_, fun h => ?_⟩
  ·rw [if_pos (by omega)]
   exact ⟨by simp only [ZA]; omega, ⟨by omega, by omega⟩, hd, ⟨by omega, by omega⟩, rfl, rfl, rfl⟩
  ·rw [if_neg (by omega)]
   exact ⟨⟨by omega, by omega⟩, hd, ⟨by omega, by omega⟩, rfl, rfl, rfl⟩
end Go.Te
