/- rational: what is told of numbers as rational numbers. -/
import Derived.Test.YtgpbohfbhfbelaaGreatDoorTkRc
import Derived.Test.YtgpbohfbhfbelaaGreatDoorArW
set_option linter.unusedSimpArgs false
set_option linter.unusedVariables false
namespace Go.Te
open Go Go.Sx Go.Proofs Go.Ar
set_option maxRecDepth 100000
set_option maxHeartbeats 4000000
theorem Sc {k : Nat} {a : zL} (h : Xl k a) (hk : 0 < k) (hk2 : k ≤ 300) : a.length ≤ 700 := by
 obtain ⟨h1, h2, h3⟩ := h.parts
 have a1 : TA (zJ a) ≤ k := rh hk h1
 have a2 : Lib.nDigits (zP a) ≤ k := (yJ hk).2 h2
 rw [← tH (ZJ.1 h.1).1]
 unfold wV
 rw [List.length_append, WQ]
 have b2 : (bif Nat.beq (zP a) 1 then [] else 47 :: Lib.decDigits (zP a)).length ≤ 301 := by
  cases Nat.beq (zP a) 1 with
  | true => simp
  | false => rw [cond_false, List.length_cons, Lib.decDigits_length]; omega
 split <;> omega
theorem yK {k : Nat} {a : zL} (h : Xl k a) (hk : 0 < k) (hk2 : k ≤ 300) : a.length ≤ 9223372036854775807 := Nat.le_trans (Sc h hk hk2) (by decide)
theorem Ky {n d : Int} (hd : d ≠ 0) : xR n d = YA ((n : Rat) / (d : Rat)) := by
 unfold xR
 have e1 : ((d.natAbs : Nat) : Rat) = ((d.natAbs : Int) : Rat) := (Rat.intCast_natCast _).symm
 cases h : zH d 0 with
 | true =>
  have h := (zR _ _).1 h
  rw [cond_true, Xn _ (by omega), Rat.mkRat_eq_div]
  congr 1
  rw [show (-d).toNat = d.natAbs by omega, e1, show ((d.natAbs : Nat) : Int) = -d by omega, Rat.intCast_neg, Rat.intCast_neg]
  grind
 | false =>
  have h : ¬ d < 0 := fun e => by rw [(zR _ _).2 e] at h; cases h
  rw [cond_false, Xn _ (by omega), Rat.mkRat_eq_div]
  congr 1
  rw [show d.toNat = d.natAbs by omega, e1, show ((d.natAbs : Nat) : Int) = d by omega]
theorem xd {k : Nat} {n : Int} (h : n.natAbs < 10 ^ k) (h0 : 0 < k) (hk : k ≤ 300) : ZU n = 0 := (ZS h0 hk h).2
theorem VF {j k : Nat} {a b : zL} (ha : Xl j a) (hb : Xl k b) : (zJ a * (zP b : Int)).natAbs < 10 ^ (j + k) ∧ (zJ b * (zP a : Int)).natAbs < 10 ^ (j + k) ∧ (zJ a * zJ b).natAbs < 10 ^ (j + k) ∧ ((zP a : Int) * (zP b : Int)).natAbs < 10 ^ (j + k) := by
 obtain ⟨a1, a2, a3⟩ := ha.parts
 obtain ⟨b1, b2, b3⟩ := hb.parts
 refine ⟨?_, ?_, ?_, ?_⟩
 ·rw [Int.natAbs_mul, Int.natAbs_natCast]; exact wG a1 b2
 ·rw [Int.natAbs_mul, Int.natAbs_natCast, Nat.mul_comm]; exact wG a2 b1
 ·rw [Int.natAbs_mul]; exact wG a1 b1
 ·rw [← Int.natCast_mul, Int.natAbs_natCast]; exact wG a2 b2
theorem Iv {u v w k : Nat} (h1 : u < 10 ^ k) (h2 : v < 10 ^ k) (h : w ≤ u + v) : w < 10 ^ (k + 1) := by
 rw [Nat.pow_succ]; omega
theorem JB {f : Int → Int → Int} (hf : ∀ u v, (f u v).natAbs ≤ u.natAbs + v.natAbs) {a b : zL} (ha : Xl 140 a) (hb : Xl 140 b) : V6 f a b = 0 ∧ Re f a b = YA (mkRat (f (zJ a * (zP b : Int)) (zJ b * (zP a : Int))) (zP a * zP b)) := by
 obtain ⟨m1, m2, m3, m4⟩ := VF ha hb
 have m5 := Iv m1 m2 (hf (zJ a * (zP b : Int)) (zJ b * (zP a : Int)))
 have e : V6 f a b = 0 := by
  unfold V6 Y2 XF
  rw [ha.1, hb.1, xd m1 (by decide) (by decide), xd m2 (by decide) (by decide), xd m5 (by omega) (by omega), xd m4 (by decide) (by decide)]
  rfl
 refine ⟨e, ?_⟩
 unfold Re
 rw [e]
 show yY _ _ = _
 rw [Xn _ (Nat.mul_pos ha.parts.2.2 hb.parts.2.2)]; rfl
def Ut (c : zL → zL → Prop) (r : zL → zL → AV) : List AV → Option (List zn × AV)
 | [.str a, .str b] => some ([.p (c a b)], r a b)
 | _ => none
theorem qu {P : Program} {G : List (Nat × Obj)} {f : FuncId} {c : zL → zL → Prop} {r : zL → zL → AV} (h : ∀ a b, c a b → zT P G f [.str a, .str b] (r a b)) : zQ P G f (Ut c r) := by
 intro xs ps r' e hp
 unfold Ut at e
 split at e
 ·cases e
  exact h _ _ (hp _ List.mem_cons_self)
 ·cases e
structure QK (k : Nat) (a b : zL) : Prop where
 fa : Xl k a
 fb : Xl k b
abbrev JF (f : Rat → Rat → Rat) (a b : zL) : AV := .tup 2 (zt [.str (YA (f (ZP a) (ZP b))), .i 0])
def hJ := Ut (QK 140) (JF (· + ·))
theorem Ho {G : List (Nat × Obj)} (hG : zh G) : zQ Tryz.prog G 19 hJ := qu fun a b h => by
 have := Hl hG a b (yK h.1 (by decide) (by decide)) (yK h.2 (by decide) (by decide))
 obtain ⟨e1, e2⟩ := JB (f := fun x y => x + y) (fun u v => by omega) h.1 h.2
 rw [e1, e2, jz h.1.parts.2.2 h.2.parts.2.2] at this
 exact this
def iQ := Ut (QK 140) (JF (· * ·))
theorem It {G : List (Nat × Obj)} (hG : zh G) : zQ Tryz.prog G 18 iQ := qu fun a b h => by
 have := HO hG a b (yK h.1 (by decide) (by decide)) (yK h.2 (by decide) (by decide))
 obtain ⟨m1, m2, m3, m4⟩ := VF h.1 h.2
 have e1 : T2 a b = 0 := by
  unfold T2
  rw [h.1.1, h.2.1, xd m3 (by decide) (by decide), xd m4 (by decide) (by decide)]
  rfl
 have e2 : OY a b = YA (ZP a * ZP b) := by
  unfold OY
  rw [e1]
  show yY _ _ = _
  rw [Xn _ (Nat.mul_pos h.1.parts.2.2 h.2.parts.2.2), j8]
 rw [e1, e2] at this
 exact this
def Yg (p q : Rat) : Int := if p < q then -1 else if p = q then 0 else 1
theorem kZ {a b : zL} (ha : zN a = 0) (hb : zN b = 0) : Xk (zJ a * (zP b : Int)) (zJ b * (zP a : Int)) = Yg (ZP a) (ZP b) := by
 have h1 : ZP a < ZP b ↔ zJ a * (zP b : Int) < zJ b * (zP a : Int) := by rw [Rat.lt_iff, (Z6 ha).1, (Z6 ha).2, (Z6 hb).1, (Z6 hb).2]
 have h2 : ZP a = ZP b ↔ zJ a * (zP b : Int) = zJ b * (zP a : Int) := by rw [Rat.eq_iff_mul_eq_mul, (Z6 ha).1, (Z6 ha).2, (Z6 hb).1, (Z6 hb).2]
 unfold Xk Yg
 generalize zJ a * (zP b : Int) = x at *
 generalize zJ b * (zP a : Int) = y at *
 by_cases h : x < y
 ·rw [(zR _ _).2 h, if_pos (h1.2 h)]; rfl
 ·rw [show zH x y = false from Bool.eq_false_iff.2 fun e => h ((zR _ _).1 e), if_neg fun e => h (h1.1 e)]
  by_cases h3 : x = y
  ·rw [if_pos (h2.2 h3), h3, beq_self_eq_true]; rfl
  ·rw [if_neg fun e => h3 (h2.1 e), beq_eq_false_iff_ne.2 h3]; rfl
def rO := Ut (QK 140) fun a b => .tup 2 (zt [.i (Yg (ZP a) (ZP b)), .i 0])
theorem RQ {G : List (Nat × Obj)} (hG : zh G) : zQ Tryz.prog G 12 rO := qu fun a b h => by
 have := Iq hG a b (yK h.1 (by decide) (by decide)) (yK h.2 (by decide) (by decide))
 obtain ⟨m1, m2, m3, m4⟩ := VF h.1 h.2
 have e1 : Y2 a b = 0 := by
  unfold Y2
  rw [h.1.1, h.2.1, xd m1 (by decide) (by decide), xd m2 (by decide) (by decide)]
  rfl
 have e2 : WJ a b = Yg (ZP a) (ZP b) := by
  unfold WJ
  rw [e1]
  exact kZ h.1.1 h.2.1
 rw [e1, e2] at this
 exact this
def lF (c : zL → Prop) (r : zL → AV) : List AV → Option (List zn × AV)
 | [.str a] => some ([.p (c a)], r a)
 | _ => none
theorem gX {P : Program} {G : List (Nat × Obj)} {f : FuncId} {c : zL → Prop} {r : zL → AV} (h : ∀ a, c a → zT P G f [.str a] (r a)) : zQ P G f (lF c r) := by
 intro xs ps r' e hp
 unfold lF at e
 split at e
 ·cases e
  exact h _ (hp _ List.mem_cons_self)
 ·cases e
def LZ := lF (Xl 300) fun _ => .i 0
theorem lU {G : List (Nat × Obj)} (hG : zh G) : zQ Tryz.prog G 29 LZ := gX fun a h => by
 have := I1 hG a (yK h (by decide) (by decide))
 rw [h.1] at this
 exact this
theorem LE (G : List (Nat × Obj)) (a : List UInt8) (hl : a.length ≤ 9223372036854775807) :
 ZY [AV.str a] → lN a ≤ nX ∧ 3 = lN [AV.junk, AV.junk, AV.junk] ∧ ((True ∧ (bif zN a == iZ then zp a else []) = bif zN a == iZ then zp a else []) ∧ (bif zN a == iZ then Zm a else []) = bif zN a == iZ then Zm a else []) ∧ kI ∧ zN a = zN a := by
 delta nX kI lN iZ
 intro hb
 simp only [sS, dS]
 exact ⟨hl, rfl⟩
theorem Js {G : List (Nat × Obj)} (hG : zh G) (a : List UInt8) (hl : a.length ≤ 9223372036854775807) : zT Tryz.prog G 155 [.str a] (.tup 3 (zt [.str (bif zN a == 0 then zp a else []), .str (bif zN a == 0 then Zm a else []), .i (zN a)])) :=
 zU (T := (Vw G).plus 32 XG) (an := .auto) mixed (zZ.plus zq (vX hG)) (Eq.mp (by kernel_rfl) (LE G a hl))
def Lx : List AV → Option (List zn × AV)
 | [.agg 2 p_x, .agg 2 p_y] => some ([.b (Yz (p_x 0) && Yz (p_x 1)), .b (Yz (p_y 0) && Yz (p_y 1)), .p (VU (⟨AV.int (p_x 0), AV.int (p_x 1)⟩ : Nt)), .p (VU (⟨AV.int (p_y 0), AV.int (p_y 1)⟩ : Nt))], yw (⟨(⟨AV.int (p_x 0), AV.int (p_x 1)⟩ : Nt).n * (⟨AV.int (p_y 0), AV.int (p_y 1)⟩ : Nt).d, (⟨AV.int (p_x 0), AV.int (p_x 1)⟩ : Nt).d * (⟨AV.int (p_y 0), AV.int (p_y 1)⟩ : Nt).n⟩ : Nt))
 | _ => none
theorem HQ (x : Nt) (y : Nt) (h1 : VU x) (h2 : VU y) :
 ZY [AV.agg 2 (zi.enc x), AV.agg 2 (zi.enc y)] → bF (dK (Nt.n x * Nt.d y)) (bF (dK (Nt.d x * Nt.n y)) (2 = 2 ∧ (kI ∧ Nt.n x * Nt.d y = Nt.n (Nt.mk (Nt.n x * Nt.d y) (Nt.d x * Nt.n y))) ∧ kI ∧ Nt.d x * Nt.n y = Nt.d (Nt.mk (Nt.n x * Nt.d y) (Nt.d x * Nt.n y)))) := by
 delta bF dK kI
 intro hb
 simp only [sS, dS]
 unfold VU at h1 h2
 have m1 := y6 (a := x.n) (b := y.d) h1.1 ⟨by omega, h2.2.2⟩
 have m3 := y6 (a := x.d) (b := y.n) ⟨by omega, h1.2.2⟩ h2.1
 exact ⟨⟨by omega, by omega⟩, ⟨by omega, by omega⟩⟩
theorem gA (x : Nt) (y : Nt) (h1 : VU x) (h2 : VU y) : zT Tryz.prog [] 213 [yw x, yw y] (yw (⟨x.n * y.d, x.d * y.n⟩ : Nt)) :=
 zU (T := T0) (an := .auto) mixed zq (Eq.mp (by kernel_rfl) (HQ x y h1 h2))
theorem Gz : zQ Tryz.prog [] 213 Lx := by
 intro xs ps r h hp
 unfold Lx at h
 split at h
 ·skip
  rename_i p_x p_y
  cases h
  obtain ⟨q0, q1, q2, q3, -⟩ := Zo hp
  exact weaken (ys := [yw (⟨AV.int (p_x 0), AV.int (p_x 1)⟩ : Nt), yw (⟨AV.int (p_y 0), AV.int (p_y 1)⟩ : Nt)]) ⟨zc (x := .agg 2 p_x) (α := Nt) q0, zc (x := .agg 2 p_y) (α := Nt) q1, trivial⟩ (gA (⟨AV.int (p_x 0), AV.int (p_x 1)⟩ : Nt) (⟨AV.int (p_y 0), AV.int (p_y 1)⟩ : Nt) q2 q3)
 ·cases h
noncomputable def e8 (G : List (Nat × Obj)) : Tb := (((Vw G).plus 43 vI).plus 44 tW).body Tryz.prog [(33, .auto)]
theorem Od {G : List (Nat × Obj)} (hG : zh G) : zZ Tryz.prog (e8 G) := zZ.body mixed (zZ.plus (zZ.plus zq (Tf hG)) (PP hG)) _
def Me : List AV → Option (List zn × AV)
 | [.agg 2 p_x, .agg 2 p_y] => some ([.b (ZV (p_x 0) && ZV (p_x 1)), .b (ZV (p_y 0) && ZV (p_y 1)), .p (uL (⟨AV.bytes (p_x 0), AV.bytes (p_x 1)⟩ : Pt)), .p (uL (⟨AV.bytes (p_y 0), AV.bytes (p_y 1)⟩ : Pt)), .p (zV (⟨AV.bytes (p_y 0), AV.bytes (p_y 1)⟩ : Pt).n ≠ 0), .p (ZU (zV (⟨AV.bytes (p_x 0), AV.bytes (p_x 1)⟩ : Pt).n * zV (⟨AV.bytes (p_y 0), AV.bytes (p_y 1)⟩ : Pt).d) = 0), .p (ZU (zV (⟨AV.bytes (p_y 0), AV.bytes (p_y 1)⟩ : Pt).n * zV (⟨AV.bytes (p_x 0), AV.bytes (p_x 1)⟩ : Pt).d) = 0)], .tup 2 (zt [.str (xR (zV (⟨AV.bytes (p_x 0), AV.bytes (p_x 1)⟩ : Pt).n * zV (⟨AV.bytes (p_y 0), AV.bytes (p_y 1)⟩ : Pt).d) (zV (⟨AV.bytes (p_y 0), AV.bytes (p_y 1)⟩ : Pt).n * zV (⟨AV.bytes (p_x 0), AV.bytes (p_x 1)⟩ : Pt).d)), .i 0]))
 | _ => none
theorem Hp (G : List (Nat × Obj)) (x : Pt) (y : Pt) (h1 : uL x) (h2 : uL y) (h3 : zV y.n ≠ 0) (h4 : ZU (zV x.n * zV y.d) = 0) (h5 : ZU (zV y.n * zV x.d) = 0) :
 let q1 := (True ∧ bA #[] = xR (zV (Pt.n x) * zV (Pt.d y)) (zV (Pt.n y) * zV (Pt.d x))); let q2 := (yI (fun (x1 x2 : Int) => x1 * x2) (Pt.n x) (Pt.d y) != iZ); let q3 := (bA #[]); let q4 := (zV q3); let q5 := (YR (fun (x1 x2 : Int) => x1 * x2) (Pt.n x) (Pt.d y)); let q6 := (YR (fun (x1 x2 : Int) => x1 * x2) (Pt.n y) (Pt.d x)); ZY [AV.agg 2 (zi.enc x), AV.agg 2 (zi.enc y)] → zY (Pt.n y == bA #[(48 : UInt8)]) (j2
 ∧ q1 ∧ kI ∧ (12 : Int) = iZ) (lN (Pt.n x) ≤ nM ∧ lN (Pt.d y) ≤ nM ∧ zY q2 (zY q2 (j2 ∧ q1 ∧ kI ∧ yI (fun (x1 x2 : Int) => x1 * x2) (Pt.n x) (Pt.d y) = iZ) (ZX q3 = iZ ∧ ZX q3 = iZ ∧ zV q3 ≠ iZ ∧ j2 ∧ (True ∧ xR q4 q4 = xR (zV (Pt.n x) * zV (Pt.d y)) (zV (Pt.n y) * zV (Pt.d x))) ∧ kI ∧ iZ = iZ)) (lN (Pt.n y) ≤ nM ∧ lN (Pt.d x) ≤ nM ∧ zY (yI
 (fun (x1 x2 : Int) => x1 * x2) (Pt.n y) (Pt.d x) != iZ) (j2 ∧ q1 ∧ kI ∧ yI (fun (x1 x2 : Int) => x1 * x2) (Pt.n y) (Pt.d x) = iZ) (ZX q5 = iZ ∧ ZX q6 = iZ ∧ zV q6 ≠ iZ ∧ j2 ∧ (True ∧ xR (zV q5) (zV q6) = xR (zV (Pt.n x) * zV (Pt.d y)) (zV (Pt.n y) * zV (Pt.d x))) ∧ kI ∧ iZ = iZ))) := by
 delta bA nM kI j2 lN iZ
 dsimp only
 intro hb
 simp only [sS, dS]
 obtain ⟨a1, a2, a3⟩ := h1
 obtain ⟨b1, b2, b3⟩ := h2
 have l1 := (Zb a1).2.1
 have l2 := (Zb a2).2.1
 have l3 := (Zb b1).2.1
 have l4 := (Zb b2).2.1
 obtain ⟨p1, p2⟩ := Wr (f := fun x1 x2 => x1 * x2) a1 b2
 obtain ⟨p3, p4⟩ := Wr (f := fun x1 x2 => x1 * x2) b1 a2
 obtain ⟨r1, r2, r3⟩ := WW h4
 obtain ⟨r4, r5, r6⟩ := WW h5
 rw [p1, p2, p3, p4, h4, h5, r2, r5]
 refine zv.2 ⟨fun c => absurd (by rw [eq_of_beq c]; decide) h3, fun _ => ⟨by omega, by omega, fun h => absurd rfl h, fun _ => ⟨by omega, by omega, fun h => absurd rfl h, fun _ => ⟨r1, r4, Int.mul_ne_zero h3 a3, rfl, rfl⟩⟩⟩⟩
theorem gG {G : List (Nat × Obj)} (hG : zh G) (x : Pt) (y : Pt) (h1 : uL x) (h2 : uL y) (h3 : zV y.n ≠ 0) (h4 : ZU (zV x.n * zV y.d) = 0) (h5 : ZU (zV y.n * zV x.d) = 0) : zT Tryz.prog G 214 [yw x, yw y] (.tup 2 (zt [.str (xR (zV x.n * zV y.d) (zV y.n * zV x.d)), .i 0])) :=
 zU (T := e8 G) (an := .auto) mixed (Od hG) (Eq.mp (by kernel_rfl) (Hp G x y h1 h2 h3 h4 h5))
theorem Gi {G : List (Nat × Obj)} (hG : zh G) : zQ Tryz.prog G 214 Me := by
 intro xs ps r h hp
 unfold Me at h
 split at h
 ·skip
  rename_i p_x p_y
  cases h
  obtain ⟨q0, q1, q2, q3, q4, q5, q6, -⟩ := Zo hp
  exact weaken (ys := [yw (⟨AV.bytes (p_x 0), AV.bytes (p_x 1)⟩ : Pt), yw (⟨AV.bytes (p_y 0), AV.bytes (p_y 1)⟩ : Pt)]) ⟨zc (x := .agg 2 p_x) (α := Pt) q0, zc (x := .agg 2 p_y) (α := Pt) q1, trivial⟩ (gG hG (⟨AV.bytes (p_x 0), AV.bytes (p_x 1)⟩ : Pt) (⟨AV.bytes (p_y 0), AV.bytes (p_y 1)⟩ : Pt) q2 q3 q4 q5 q6)
 ·cases h
noncomputable def ET (G : List (Nat × Obj)) : Tb := (((((Vw G).plus 32 XG).plus 30 vf).plus 98 SH).plus 213 Lx).plus 214 Me |>.body Tryz.prog [(39, .auto), (41, .auto)]
theorem Nx {G : List (Nat × Obj)} (hG : zh G) : zZ Tryz.prog (ET G) :=
 zZ.body mixed (zZ.plus (zZ.plus (zZ.plus (zZ.plus (zZ.plus zq (vX hG)) (zQ.mono tC)) (lK hG)) (zQ.mono Gz)) (Gi hG)) _
theorem GQ {a b : zL} (ha : Xl 140 a) (hb : Xl 140 b) (hp : ZP b ≠ 0) : zJ b ≠ 0 ∧ (zP a : Int) * zJ b ≠ 0 ∧ xR (zJ a * (zP b : Int)) (zJ b * (zP a : Int)) = YA (ZP a / ZP b) := by
 have h0 : zJ b ≠ 0 := fun e => hp (by unfold ZP; rw [e]; exact Rat.zero_mkRat _)
 have da := ha.parts.2.2
 have db := hb.parts.2.2
 refine ⟨h0, Int.mul_ne_zero (by omega) h0, ?_⟩
 rw [Ky (Int.mul_ne_zero h0 (by omega))]
 congr 1
 unfold ZP
 rw [Rat.mkRat_eq_div, Rat.mkRat_eq_div, Rat.intCast_mul, Rat.intCast_mul, Rat.intCast_natCast, Rat.intCast_natCast]
 have e1 : ((zP a : Nat) : Rat) ≠ 0 := fun e => by have := Rat.natCast_eq_zero_iff.1 e; omega
 have e2 : ((zP b : Nat) : Rat) ≠ 0 := fun e => by have := Rat.natCast_eq_zero_iff.1 e; omega
 have e3 : ((zJ b : Int) : Rat) ≠ 0 := fun e => h0 (Rat.intCast_eq_zero_iff.1 e)
 grind
theorem KE (G : List (Nat × Obj)) (a : List UInt8) (b : List UInt8) (ha : Xl 140 a) (hc : Xl 140 b) (hp : ZP b ≠ 0) :
 let q2 := (True ∧ bA #[] = YA (ZP a / ZP b)); let q6 := (Value.agg #[Value.string (ByteArray.mk #[]), Value.string (ByteArray.mk #[])]); let q5 := (fun (i : Nat) => if 0 ≤ i ∧ i < 0 + 2 then zt [AV.str (bif zN a == iZ then zp a else []), AV.str (bif zN a == iZ then Zm a else [])] (i - 0) else ZD q6 i); let q4 := (Pt.mk (AV.bytes (q5 0)) (AV.bytes (q5 1))); let q3 := (Pt.n q4); let q7 := (Pt.d q4); let q10 := (fun (i : Nat) => if 0 ≤ i ∧ i < 0 + 2 then zt [AV.str (bif zN b == iZ then zp b else []), AV.str
 (bif zN b == iZ then Zm b else [])] (i - 0) else ZD q6 i); let q9 := (Pt.mk (AV.bytes (q10 0)) (AV.bytes (q10 1))); let q8 := (Pt.n q9); let q11 := (Pt.d q9); let q12 := (zV q3 * zV q11); let q13 := (zV q8 * zV q7); let q1 := (lN a ≤ nX ∧ zY (zN a != iZ) (j2 ∧ q2 ∧ kI ∧ zN a = iZ) (lN b ≤ nX ∧ zY (zN b != iZ) (j2 ∧ q2 ∧ kI ∧ zN b = iZ) ((ZX q3 = iZ ∧ ZX q7 = iZ ∧
 zV q7 ≠ iZ) ∧ (ZX q8 = iZ ∧ ZX q11 = iZ ∧ zV q11 ≠ iZ) ∧ zV q8 ≠ iZ ∧ ZU q12 = iZ ∧ ZU q13 = iZ ∧ j2 ∧ (True ∧ xR q12 q13 = YA (ZP a / ZP b)) ∧ kI ∧ iZ = iZ))); let q16 := (Value.agg #[Value.int .i64 iZ, Value.int .i64 iZ]); let q15 := (fun (i : Nat) => if 0 ≤ i ∧ i < 0 + 2 then zt [AV.i (bif Zw a then zJ a else iZ), AV.i (bif Zw a then (cI (zP a)) else iZ)] (i - 0) else ZD q16 i); let q14 := (Nt.mk (AV.int (q15 0))
 (AV.int (q15 1))); let q18 := (fun (i : Nat) => if 0 ≤ i ∧ i < 0 + 2 then zt [AV.i (bif Zw b then zJ b else iZ), AV.i (bif Zw b then (cI (zP b)) else iZ)] (i - 0) else ZD q16 i); let q17 := (Nt.mk (AV.int (q18 0)) (AV.int (q18 1))); let q20 := (Nt.mk (Nt.n q14 * Nt.d q17) (Nt.d q14 * Nt.n q17)); let q19 := (Nt.mk (AV.int (aI (Nt.n q20))) (AV.int (aI (Nt.d q20)))); ZY [AV.str a, AV.str b] → zY (!b == bA #[(48 : UInt8)]) (lN a ≤ nX ∧ zY (!Zw a) q1
 (lN b ≤ nX ∧ zY (!Zw b) q1 ((((-99999999 : Int) ≤ Nt.n q14 ∧ Nt.n q14 ≤ (99999999 : Int)) ∧ iZ < Nt.d q14 ∧ Nt.d q14 ≤ (99999999 : Int)) ∧ (((-99999999 : Int) ≤ Nt.n q17 ∧ Nt.n q17 ≤ (99999999 : Int)) ∧ iZ < Nt.d q17 ∧ Nt.d q17 ≤ (99999999 : Int)) ∧ Nt.d q19 ≠ iZ ∧ ((-1000000000000000000 : Int) ≤ Nt.d q19 ∧ Nt.d q19 ≤ (1000000000000000000 : Int)) ∧ ((-1000000000000000000 : Int) ≤ Nt.n q19 ∧ Nt.n q19 ≤ (1000000000000000000 : Int)) ∧ j2 ∧ (True ∧ xR (Nt.n q19) (Nt.d q19) = YA (ZP a / ZP b)) ∧ IntKind.i64 =
 .i64 ∧ iZ = iZ))) q1 := by
 delta bA nX cI kI j2 lN iZ aI
 dsimp only
 intro hb
 simp only [sS, dS]
 obtain ⟨n0, n1, n2⟩ := GQ ha hc hp
 have h0 : (b == [48]) = false := beq_eq_false_iff_ne.2 fun e => by subst e; exact n0 (by decide)
 have la := yK ha (by decide) (by decide)
 have lb := yK hc (by decide) (by decide)
 obtain ⟨m1, m2, m3, m4⟩ := VF ha hc
 have p1 := Ws ha.1
 have p2 := Ws hc.1
 obtain ⟨_, _, v1, v2⟩ := mZ ha.1
 obtain ⟨_, _, v3, v4⟩ := mZ hc.1
 have r1 := xd m1 (by decide) (by decide)
 have r2 := xd m2 (by decide) (by decide)
 have q3 : zV (zp b) ≠ 0 := by rw [v3]; exact n0
 have q4 : ZU (zV (zp a) * zV (Zm b)) = 0 := by rw [v1, v4]; exact r1
 have q5 : ZU (zV (zp b) * zV (Zm a)) = 0 := by rw [v3, v2]; exact r2
 have q6 : xR (zV (zp a) * zV (Zm b)) (zV (zp b) * zV (Zm a)) = YA (ZP a / ZP b) := by rw [v1, v2, v3, v4]; exact n2
 rw [h0]
 refine zv.2 ⟨fun _ => ⟨la, zv.2 ⟨fun c => ?_, fun c => ⟨lb, zv.2 ⟨fun c2 => ?_, fun c2 => ?_⟩⟩⟩⟩, fun c => by cases c⟩
 rotate_left 2
 ·rw [Bool.not_eq_false'] at c c2
  obtain ⟨a1, a2, a3⟩ := Yf c
  obtain ⟨b1, b2, b3⟩ := Yf c2
  have w1 := y6 (a := zJ a) (b := (zP b : Int)) ⟨by omega, by omega⟩ ⟨by omega, by omega⟩
  have w2 := y6 (a := (zP a : Int)) (b := zJ b) ⟨by omega, by omega⟩ ⟨by omega, by omega⟩
  rw [c, c2]
  simp only [cond_true]
  have w3 : -1000000000000000000 ≤ (zP a : Int) * zJ b ∧ (zP a : Int) * zJ b ≤ 1000000000000000000 := ⟨by omega, by omega⟩
  have w4 : -1000000000000000000 ≤ zJ a * (zP b : Int) ∧ zJ a * (zP b : Int) ≤ 1000000000000000000 := ⟨by omega, by omega⟩
  rw [Int.mul_comm (zJ b)] at n2
  exact ⟨UV c, UV c2, n1, w3, w4, rfl, n2⟩
 all_goals
  rw [ha.1, hc.1]
  exact ⟨la, fun h => absurd rfl h, fun _ => ⟨lb, fun h => absurd rfl h, fun _ => ⟨p1, p2, q3, q4, q5, rfl, q6⟩⟩⟩
theorem Il {G : List (Nat × Obj)} (hG : zh G) (a : List UInt8) (b : List UInt8) (ha : Xl 140 a) (hc : Xl 140 b) (hp : ZP b ≠ 0) : zT Tryz.prog G 164 [.str a, .str b] (.tup 2 (zt [.str (YA (ZP a / ZP b)), .i 0])) :=
 zU (T := ET G) (an := .auto) mixed (Nx hG) (Eq.mp (by kernel_rfl) (KE G a b ha hc hp))
structure ER (a b : zL) : Prop where
 fa : Xl 140 a
 fb : Xl 140 b
 ne : ZP b ≠ 0
def HI := Ut ER (JF (· / ·))
theorem iP {G : List (Nat × Obj)} (hG : zh G) : zQ Tryz.prog G 164 HI := qu fun a b h => Il hG a b h.1 h.2 h.3
end Go.Te
