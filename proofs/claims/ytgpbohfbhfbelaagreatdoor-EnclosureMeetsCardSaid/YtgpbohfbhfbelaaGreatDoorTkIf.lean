/- integer: write, result; strings.Repeat of the digit 0. -/
import Derived.Test.YtgpbohfbhfbelaaGreatDoorTkI0
set_option linter.unusedSimpArgs false
set_option linter.unusedVariables false
namespace Go.Te
open Go Go.Sx Go.Proofs Go.Ar Go.Lib
set_option maxRecDepth 100000
set_option maxHeartbeats 4000000
def Lp : List AV → Option (List zn × AV)
 | [.str s, .v (.int .i64 k)] => some ([.b (s == [48]), .p (0 ≤ k ∧ k ≤ 14)], .str (List.replicate k.toNat 48))
 | _ => none
theorem IV  :
 True := by
 trivial
theorem IJ  :
 True := by
 trivial
theorem Hy  :
 True := by
 trivial
theorem Hg  :
 True := by
 trivial
theorem II  :
 True := by
 trivial
theorem Hj  :
 True := by
 trivial
theorem Hs  :
 True := by
 trivial
theorem IS  :
 True := by
 trivial
theorem iH  :
 True := by
 trivial
theorem HC  :
 True := by
 trivial
theorem jh  :
 True := by
 trivial
theorem Kz  :
 True := by
 trivial
theorem K6  :
 True := by
 trivial
theorem ja  :
 True := by
 trivial
theorem kN  :
 True := by
 trivial
theorem vj {k : Int} {n : Nat} (e : k = n) (h : uC Tryz.prog (T0.deep Tryz.prog 5) 89 .auto [.str [48], .i k] (FD (List.replicate n 48))) : zT Tryz.prog [] 89 [.str [48], .i k] (.str (List.replicate k.toNat 48)) := by
 subst e
 exact xg mixed (zZ.deep mixed zq 5) kA h
theorem Gl : zQ Tryz.prog [] 89 Lp := by
 intro xs ps r h hp
 unfold Lp at h
 split at h
 ·rename_i s k
  cases h
  have q : (s == [48]) = true := hp _ List.mem_cons_self
  have q1 : 0 ≤ k ∧ k ≤ 14 := hp _ (List.mem_cons_of_mem _ List.mem_cons_self)
  obtain rfl := eq_of_beq q
  obtain ⟨n, rfl⟩ : ∃ n : Nat, k = n := ⟨k.toNat, by omega⟩
  match n, q1 with
  | 0, _ => exact vj rfl (Eq.mp (by kernel_rfl) IV)
  | 1, _ => exact vj rfl (Eq.mp (by kernel_rfl) IJ)
  | 2, _ => exact vj rfl (Eq.mp (by kernel_rfl) Hy)
  | 3, _ => exact vj rfl (Eq.mp (by kernel_rfl) Hg)
  | 4, _ => exact vj rfl (Eq.mp (by kernel_rfl) II)
  | 5, _ => exact vj rfl (Eq.mp (by kernel_rfl) Hj)
  | 6, _ => exact vj rfl (Eq.mp (by kernel_rfl) Hs)
  | 7, _ => exact vj rfl (Eq.mp (by kernel_rfl) IS)
  | 8, _ => exact vj rfl (Eq.mp (by kernel_rfl) iH)
  | 9, _ => exact vj rfl (Eq.mp (by kernel_rfl) HC)
  | 10, _ => exact vj rfl (Eq.mp (by kernel_rfl) jh)
  | 11, _ => exact vj rfl (Eq.mp (by kernel_rfl) Kz)
  | 12, _ => exact vj rfl (Eq.mp (by kernel_rfl) K6)
  | 13, _ => exact vj rfl (Eq.mp (by kernel_rfl) ja)
  | 14, _ => exact vj rfl (Eq.mp (by kernel_rfl) kN)
  | n + 15, q1 => exact absurd q1.2 (by omega)
 ·cases h
def Tb.own1 (T : Tb) (f : FuncId) (t : Nat → (Nat → OB) → List AV → (Nat → (Nat → OB) → AV → Prop) → Prop) : Tb := { T with own := fun g => bif Nat.beq g f then some t else T.own g, frm := fun _ => false }
theorem zZ.own1 {P : Program} {T : Tb} (hT : zZ P T) {f : FuncId} {t : Nat → (Nat → OB) → List AV → (Nat → (Nat → OB) → AV → Prop) → Prop} (ht : TY P T.objs f t) : zZ P (Tb.own1 T f t) := by
 refine ⟨fun g t' h => ?_, hT.pu, hT.fre, fun f t h => (by cases h)⟩
 simp only [Tb.own1] at h
 cases hx : Nat.beq g f with
 | false => rw [hx] at h; exact hT.own _ _ h
 | true =>
  rw [hx] at h
  obtain rfl := Nat.eq_of_beq_eq_true hx
  cases h
  exact ht
noncomputable def Er (G : List (Nat × Obj)) : Tb := (Tb.own1 (Tb.own1 (Kk G) 201 fI) 145 jL).body Tryz.prog [(212, .auto), (143, .auto), (144, .auto), (191, .auto)]
theorem na {G : List (Nat × Obj)} (hG : zh G) : zZ Tryz.prog (Er G) := zZ.body mixed (zZ.own1 (zZ.own1 (Yj hG) (IY G)) (KN G)) _
noncomputable def Ev (G : List (Nat × Obj)) : Tb := (Er G).plus 89 Lp
theorem OG {G : List (Nat × Obj)} (hG : zh G) : zZ Tryz.prog (Ev G) := zZ.plus (na hG) (zQ.mono Gl)
def zD (x : Big) (z : Nat) : zL := (bif x.neg then [45] else []) ++ Lib.decDigits (Wz 1000000000 x.l z)
def gg (σ : zo) : Nat :=
 match σ.bl 1 with
 | .box _ _ cs => yd (cs 1)
 | _ => 0
def Hi (x : Big) : Z9 :=
 .two .auto (.one (.two .auto (.unroll (x.l.length + 1) (.loop Nat (fun σ z => [(0, σ.tm 0), (1, σ.tm 1), (3, .i ((z : Int) - 1))])
  (fun σ z => [(1, .box 174 2 (zt [.np 1 0, .ns σ.nb 0 (zD x z).length])), (gg σ, .dead), (σ.nb, IG (zD x z))]) 1 (fun _ z => z < x.l.length) (fun _ z => z) .auto))))
def iJ (x : Big) : Z9 :=
 .two .auto (.two .auto (.two .auto (.two .auto (.two (.two .auto (.one (.range (Hi x) .auto .auto))) .auto))))
theorem SV (a b : zL) (i : Nat) : (a ++ b).getD i 0 = if i < a.length then a.getD i 0 else b.getD (i - a.length) 0 := by
 by_cases h : i < a.length
 ·rw [if_pos h, List.getD_eq_getElem?_getD, List.getElem?_append_left h, ← List.getD_eq_getElem?_getD]
 ·rw [if_neg h, List.getD_eq_getElem?_getD, List.getElem?_append_right (by omega), ← List.getD_eq_getElem?_getD]
theorem ew (a b : zL) (i : Nat) : zB (if i < a.length then AV.v (Value.int IntKind.u8 ((a.getD i 0).toNat : Int)) else AV.v (Value.int IntKind.u8 ((b.getD (i - a.length) 0).toNat : Int))) (AV.v (Value.int IntKind.u8 (((a ++ b).getD i 0).toNat : Int))) := by
 rw [SV]
 split <;> exact zr _
theorem FF (a b c : zL) (i : Nat) : zB (if i < a.length + b.length then (if i < a.length then AV.v (Value.int IntKind.u8 ((a.getD i 0).toNat : Int)) else AV.v (Value.int IntKind.u8 ((b.getD (i - a.length) 0).toNat : Int))) else AV.v (Value.int IntKind.u8 ((c.getD (i - (a.length + b.length)) 0).toNat : Int))) (AV.v (Value.int IntKind.u8 (((a ++ b ++ c).getD i 0).toNat : Int))) := by
 rw [SV (a ++ b) c, List.length_append]
 split
 ·exact ew a b i
 ·exact zr _
theorem FI (c : UInt8) (b : zL) (i : Nat) : zB (if i < 1 then AV.v (Value.int IntKind.u8 (c.toNat : Int)) else AV.v (Value.int IntKind.u8 ((b.getD (i - 1) 0).toNat : Int))) (AV.v (Value.int IntKind.u8 (((c :: b).getD i 0).toNat : Int))) := by
 match i with
 | 0 => exact zr _
 | i + 1 => rw [if_neg (by omega)]; exact zr _
theorem Wb {n : Int} (h0 : 0 ≤ n) (h1 : n < 1000000000) : 1 ≤ (itoa n).length ∧ (itoa n).length ≤ 9 ∧ itoa n = decDigits n.toNat := by
 obtain ⟨m, rfl⟩ : ∃ m : Nat, n = m := ⟨n.toNat, by omega⟩
 have e : itoa (m : Int) = decDigits m := Go.Ar.ym m
 rw [Int.toNat_natCast, e]
 refine ⟨yA m, ?_, rfl⟩
 rw [Lib.decDigits_length]
 exact (yJ (by omega)).2 (by omega)
theorem mF {x : Big} (hx : z8 1000000000 x.l) (h : 0 < x.l.length) : zD x (x.l.length - 1) = (bif x.neg then [45] else []) ++ itoa (x.l.getD (x.l.length - 1) 0) := by
 have g := hx.get (by omega) (x.l.length - 1)
 rw [(Wb g.1 g.2).2.2]
 unfold zD
 rw [nH h]
theorem Lw {l : List Int} (hx : z8 1000000000 l) (ht : zO l = l) {z : Nat} (hz : z < l.length) : Wz 1000000000 l z ≠ 0 := by
 have e : l = zw 1000000000 (zX 1000000000 l).toNat := YO (b := 1000000000) (by omega) hx ht
 have hn : (zX 1000000000 l).toNat ≠ 0 := fun e0 => by
  rw [e0, ZN] at e
  rw [e] at hz
  exact absurd hz (Nat.not_lt_zero _)
 rw [e] at hz ⊢
 exact Mj (b := 1000000000) (by omega) hn hz
theorem Kx {x : Big} (hx : z8 1000000000 x.l) (ht : zO x.l = x.l) {z : Nat} (h0 : 0 < z) (h : z < x.l.length) :
  zD x (z - 1) = zD x z ++ List.replicate (9 - ((itoa (x.l.getD (z - 1) 0)).length : Int)).toNat 48 ++ itoa (x.l.getD (z - 1) 0) := by
 have g := hx.get (by omega) (z - 1)
 obtain ⟨g1, g2, g3⟩ := Wb g.1 g.2
 have hs := NI (k := 9) (l := x.l) (by omega) hx (i := z - 1) (by omega) (by rw [show z - 1 + 1 = z by omega]; exact Lw hx ht h)
 rw [show z - 1 + 1 = z by omega] at hs
 unfold zD
 rw [show decDigits (Wz 1000000000 x.l (z - 1)) = decDigits (Wz 1000000000 x.l z) ++ tT 9 (x.l.getD (z - 1) 0).toNat from hs]
 unfold tT
 rw [← g3, show (9 - ((itoa (x.l.getD (z - 1) 0)).length : Int)).toNat = 9 - (itoa (x.l.getD (z - 1) 0)).length by omega]
 simp only [List.append_assoc]
theorem Ij {x : Big} (hx : z8 1000000000 x.l) (z : Nat) : (zD x z).length ≤ 9 * x.l.length + 2 := by
 unfold zD
 rw [List.length_append]
 have h1 : (bif x.neg then [(45 : UInt8)] else []).length ≤ 1 := by cases x.neg <;> simp
 have h2 : (decDigits (Wz 1000000000 x.l z)).length ≤ 9 * x.l.length + 1 := by
  rw [Lib.decDigits_length]
  refine (yJ (by omega)).2 ?_
  have h3 := yN (b := 1000000000) (by omega) (hx.drop z)
  have h4 := zK (b := 1000000000) (by omega) (hx.drop z)
  unfold Wz
  have h5 : (1000000000 : Nat) ^ (x.l.drop z).length ≤ 1000000000 ^ x.l.length := Nat.pow_le_pow_right (by omega) (by simp)
  have h6 : (1000000000 : Nat) ^ x.l.length = 10 ^ (9 * x.l.length) := by rw [Nat.pow_mul]
  have h7 : 10 ^ (9 * x.l.length) ≤ 10 ^ (9 * x.l.length + 1) := Nat.pow_le_pow_right (by omega) (by omega)
  have h8 : (zX 1000000000 (x.l.drop z)).toNat < 1000000000 ^ (x.l.drop z).length := by
   have : ((zX 1000000000 (x.l.drop z)).toNat : Int) < ((1000000000 ^ (x.l.drop z).length : Nat) : Int) := by rw [Int.toNat_of_nonneg h4, Int.natCast_pow]; exact h3
   omega
  exact Nat.lt_of_lt_of_le h8 (by omega)
 omega
theorem Ht {x : Big} (hx : z8 1000000000 x.l) (ht : zO x.l = x.l) (h : 0 < x.l.length) : zD x 0 = itoa (bif x.neg then - zX 1000000000 x.l else zX 1000000000 x.l) ∧ 0 < (zD x 0).length := by
 have hz := Lw hx ht h
 have e : Wz 1000000000 x.l 0 = (zX 1000000000 x.l).toNat := by unfold Wz; rw [List.drop_zero]; rfl
 rw [e] at hz
 unfold zD
 rw [e]
 obtain ⟨n, hn⟩ : ∃ n : Nat, zX 1000000000 x.l = n := ⟨(zX 1000000000 x.l).toNat, by omega⟩
 rw [hn] at hz ⊢
 rw [Int.toNat_natCast] at hz ⊢
 refine ⟨?_, by have := yA n; simp; omega⟩
 cases x.neg with
 | true => exact (Go.Ar.itoa_neg (by omega)).symm
 | false => exact (Go.Ar.ym n).symm
def tv : List AV → Option (List zn × AV)
 | [x_x] => some ([.b (yZ Big x_x), .p (z8 1000000000 (Zi (α := Big) x_x).l), .p (zO (Zi (α := Big) x_x).l = (Zi (α := Big) x_x).l), .p ((Zi (α := Big) x_x).l.length ≤ 100000000)], .str (itoa (bif (Zi (α := Big) x_x).neg then - zX 1000000000 (Zi (α := Big) x_x).l else zX 1000000000 (Zi (α := Big) x_x).l)))
 | _ => none
theorem Nj (G : List (Nat × Obj)) (x : Big) (hx : z8 1000000000 x.l) (ht : zO x.l = x.l) (hl : x.l.length ≤ 100000000) :
 let q1 := (bif Big.neg x then -zX iB (Big.l x) else zX iB (Big.l x)); let q3 := ((lZ (Big.l x)) - iO); let q2 := (dK q3); let q4 := (leB iZ q3); let q5 := (DB.db (iZ ≤ (lZ (Big.l x)) - iO ∧ (lZ (Big.l x)) - iO < (lZ (Big.l x)))); let q7 := (Int.toNat q3); let q6 := (iN ≤ gD (Big.l x) q7 zi.dflt ∧ gD (Big.l x) q7 zi.dflt ≤ iX); let q8 := (zH q3 q3); let q12 := (itoa
 (gD (Big.l x) q7 zi.dflt)); let q11 := (lZ q12); let q10 := ((9 : Int) - q11); let q9 := (dK q10); let q13 := (iZ ≤ (9 : Int) - q11 ∧ (9 : Int) - q11 ≤ (14 : Int)); let q15 := (List.replicate (Int.toNat q10) (48 : UInt8)); let q14 := (1 + lN q15); let q16 := (dK ((lZ (Big.l x)) - iO - iO)); let q18 := (xI (Big.l x)); let q17 := (114 = 114 ∧ 2 = 2 ∧ Big.neg x = Big.neg x ∧ zB q18 q18); ZY [AV.agg 2
 (zi.enc x)] → zY ((lZ (Big.l x)) == iZ) (bA #[(48 : UInt8)] = itoa q1) (zY (Big.neg x) (bF q2 (zY q4 (bF q5 (q6 ∧ bF q2 (zY q8 (bF q9 (q13 ∧ bF (DB.db (q14 * 1 ≤ 140737488355328)) (bF (DB.db ((1 + lN q15 + lN q12) * 1 ≤ 140737488355328)) (bF q16 ((∃ (z : Nat), ((z < lN (Big.l x) ∧ z < lN (Big.l x) + 1) ∧ nat_lit 4 = 4 ∧ (nat_lit 3 = 3 ∧ 0 = 0) ∧ kI ∧ (lZ (Big.l x)) - iO - iO = (cI z) - iO) ∧
 ((((((q17 ∧ 174 = 174 ∧ 2 = 2 ∧ (1 = 1 ∧ 0 = 0) ∧ nat_lit 7 = 7 ∧ 0 = 0 ∧ lN (zD x z) = 1 + lN q15 + lN q12) ∧ True) ∧ 50 = 50 ∧ 1 = 1 ∧ zB q18 q18) ∧ lR) ∧ True) ∧ True) ∧ (5 : TypeId) = 5 ∧ 1 = 1 ∧ lN (zD x z) = 1 + lN q15 + lN q12 ∧ ∀ (i j : Nat), i < 1 + lN q15 + lN q12 → j < 1 → zB (if i < 1 + lN q15 then if i < 1 then Sx.rowAt [fun (x : Nat) => AV.v (Value.int IntKind.u8 (45 : Int))] i j else a8 (gD q15 (i
 - 1) (0 : UInt8)) else a8 (gD q12 (i - q14) (0 : UInt8))) (a8 (gD (zD x z) i (0 : UInt8)))) ∧ ∀ (z : Nat), let q21 := (itoa (gD (Big.l x) (Int.toNat ((cI z) - iO)) zi.dflt)); let q20 := (lZ q21); let q19 := ((9 : Int) - q20); let q23 := (List.replicate (Int.toNat q19) (48 : UInt8)); let q22 := (lN (zD x z) + lN q23); let q24 := (dK ((cI z) - iO - iO)); z < lN (Big.l x) → zY
 (leB iZ ((cI z) - iO)) (bF (DB.db (iZ ≤ (cI z) - iO ∧ (cI z) - iO < (lZ (Big.l x)))) ((iN ≤ gD (Big.l x) (Int.toNat ((cI z) - iO)) zi.dflt ∧ gD (Big.l x) (Int.toNat ((cI z) - iO)) zi.dflt ≤ iX) ∧ bF q2 (zY (zH ((cI z) - iO) q3) (bF (dK q19) ((iZ ≤ (9 : Int) - q20 ∧ (9 : Int) - q20 ≤ (14 : Int)) ∧ bF (DB.db (q22 * 1 ≤ 140737488355328)) (bF (DB.db ((lN (zD x z) + lN q23
 + lN q21) * 1 ≤ 140737488355328)) (bF q24 (∃ (z' : Nat), ((z' < lN (Big.l x) ∧ z' < z) ∧ nat_lit 4 = 4 ∧ (nat_lit 3 = 3 ∧ 0 = 0) ∧ kI ∧ (cI z) - iO - iO = (cI z') - iO) ∧ ((((((q17 ∧ 174 = 174 ∧ 2 = 2 ∧ (1 = 1 ∧ 0 = 0) ∧ nat_lit 7 = 7 ∧ 0 = 0 ∧ lN (zD x z') = lN (zD x z) + lN q23 + lN q21) ∧ True) ∧ 50 = 50 ∧ 1 = 1 ∧ zB q18 q18) ∧ lR) ∧ True) ∧ True) ∧ (5 : TypeId) = 5 ∧ 1 = 1 ∧ lN (zD x z') = lN (zD x z) +
 lN q23 + lN q21 ∧ ∀ (i j : Nat), i < lN (zD x z) + lN q23 + lN q21 → j < 1 → zB (if i < lN (zD x z) + lN q23 then if i < lN (zD x z) then a8 (gD (zD x z) i (0 : UInt8)) else a8 (gD q23 (i - lN (zD x z)) (0 : UInt8)) else a8 (gD q21 (i - q22) (0 : UInt8))) (AV.v (Value.int IntKind.u8 (↑(UInt8.toNat (gD (zD x z') i (0 : UInt8))) :
 Int)))))))) (bF (DB.db ((lN (zD x z) + lN q21) * 1 ≤ 140737488355328)) (bF q24 (∃ (z' : Nat), ((z' < lN (Big.l x) ∧ z' < z) ∧ nat_lit 4 = 4 ∧ (nat_lit 3 = 3 ∧ 0 = 0) ∧ kI ∧ (cI z) - iO - iO = (cI z') - iO) ∧ ((((((q17 ∧ 174 = 174 ∧ 2 = 2 ∧ (1 = 1 ∧ 0 = 0) ∧ nat_lit 7 = 7 ∧ 0 = 0 ∧ lN (zD x z') = lN (zD x z) + lN q21) ∧ True) ∧ 50 = 50 ∧ 1 = 1 ∧ zB q18 q18) ∧ lR) ∧ True) ∧ True) ∧ (5 : TypeId) = 5 ∧ 1 = 1 ∧
 lN (zD x z') = lN (zD x z) + lN q21 ∧ ∀ (i j : Nat), i < lN (zD x z) + lN q21 → j < 1 → zB (if i < lN (zD x z) then a8 (gD (zD x z) i (0 : UInt8)) else a8 (gD q21 (i - lN (zD x z)) (0 : UInt8))) (a8 (gD (zD x z') i (0 : UInt8))))))))) (0 < lN (zD x z) ∧ ∃ (l : List UInt8), lN l = lN (zD x z) ∧ (∀ (i :
 Nat), i < lN (zD x z) → a8 (gD (zD x z) i (0 : UInt8)) = a8 (gD l i (0 : UInt8))) ∧ l = itoa q1)))))) (bF (DB.db ((1 + lN q12) * 1 ≤ 140737488355328)) (bF q16 ((∃ (z : Nat), ((z < lN (Big.l x) ∧ z < lN (Big.l x) + 1) ∧ nat_lit 4 = 4 ∧ (nat_lit 3 = 3 ∧ 0 = 0) ∧ kI ∧ (lZ (Big.l x)) - iO - iO = (cI z) - iO) ∧ (((((q17 ∧ 174 = 174 ∧ 2 = 2 ∧ (1 = 1 ∧ 0 = 0) ∧
 nat_lit 6 = 6 ∧ 0 = 0 ∧ lN (zD x z) = 1 + lN q12) ∧ True) ∧ 50 = 50 ∧ 1 = 1 ∧ zB q18 q18) ∧ lR) ∧ True) ∧ (5 : TypeId) = 5 ∧ 1 = 1 ∧ lN (zD x z) = 1 + lN q12 ∧ ∀ (i j : Nat), i < 1 + lN q12 → j < 1 → zB (if i < 1 then Sx.rowAt [fun (x : Nat) => AV.v (Value.int IntKind.u8 (45 : Int))] i j else a8 (gD q12 (i - 1) (0 : UInt8))) (a8 (gD (zD x z) i (0 : UInt8)))) ∧ ∀ (z : Nat), let q27
 := (itoa (gD (Big.l x) (Int.toNat ((cI z) - iO)) zi.dflt)); let q26 := (lZ q27); let q25 := ((9 : Int) - q26); let q29 := (List.replicate (Int.toNat q25) (48 : UInt8)); let q28 := (lN (zD x z) + lN q29); let q30 := (dK ((cI z) - iO - iO)); z < lN (Big.l x) → zY (leB iZ ((cI z) - iO)) (bF (DB.db (iZ ≤ (cI z) - iO ∧ (cI z) - iO < (lZ (Big.l x)))) ((iN ≤ gD (Big.l x) (Int.toNat ((cI z) - (1 :
 Int))) zi.dflt ∧ gD (Big.l x) (Int.toNat ((cI z) - iO)) zi.dflt ≤ iX) ∧ bF q2 (zY (zH ((cI z) - iO) q3) (bF (dK q25) ((iZ ≤ (9 : Int) - q26 ∧ (9 : Int) - q26 ≤ (14 : Int)) ∧ bF (DB.db (q28 * 1 ≤ 140737488355328)) (bF (DB.db ((lN (zD x z) + lN q29 + lN q27) * 1 ≤ 140737488355328)) (bF q30 (∃ (z' : Nat), ((z' < lN (Big.l x) ∧ z' < z) ∧ nat_lit 4 = 4 ∧ (nat_lit 3 = 3 ∧ 0 = 0) ∧ kI ∧ (cI z) - iO - iO = (cI z') - iO)
 ∧ (((((q17 ∧ 174 = 174 ∧ 2 = 2 ∧ (1 = 1 ∧ 0 = 0) ∧ nat_lit 6 = 6 ∧ 0 = 0 ∧ lN (zD x z') = lN (zD x z) + lN q29 + lN q27) ∧ True) ∧ 50 = 50 ∧ 1 = 1 ∧ zB q18 q18) ∧ lR) ∧ True) ∧ (5 : TypeId) = 5 ∧ 1 = 1 ∧ lN (zD x z') = lN (zD x z) + lN q29 + lN q27 ∧ ∀ (i j : Nat), i < lN (zD x z) + lN q29 + lN q27 → j < 1 → zB (if i < lN (zD x z) + lN q29 then if i < lN (zD x z) then AV.v (Value.int IntKind.u8
 (cI (UInt8.toNat (gD (zD x z) i (0 : UInt8))))) else a8 (gD q29 (i - lN (zD x z)) (0 : UInt8)) else a8 (gD q27 (i - q28) (0 : UInt8))) (a8 (gD (zD x z') i (0 : UInt8)))))))) (bF (DB.db ((lN (zD x z) + lN q27) * 1 ≤ 140737488355328)) (bF q30 (∃ (z' : Nat), ((z' < lN (Big.l x) ∧ z' < z) ∧ nat_lit 4 = 4 ∧ (nat_lit 3 = 3 ∧ 0 = 0) ∧ kI
 ∧ (cI z) - iO - iO = (cI z') - iO) ∧ (((((q17 ∧ 174 = 174 ∧ 2 = 2 ∧ (1 = 1 ∧ 0 = 0) ∧ nat_lit 6 = 6 ∧ 0 = 0 ∧ lN (zD x z') = lN (zD x z) + lN q27) ∧ True) ∧ 50 = 50 ∧ 1 = 1 ∧ zB q18 q18) ∧ lR) ∧ True) ∧ (5 : TypeId) = 5 ∧ 1 = 1 ∧ lN (zD x z') = lN (zD x z) + lN q27 ∧ ∀ (i j : Nat), i < lN (zD x z) + lN q27 → j < 1 → zB (if i < lN (zD x z) then a8 (gD (zD x z) i (0 :
 UInt8)) else a8 (gD q27 (i - lN (zD x z)) (0 : UInt8))) (a8 (gD (zD x z') i (0 : UInt8))))))))) (0 < lN (zD x z) ∧ ∃ (l : List UInt8), lN l = lN (zD x z) ∧ (∀ (i : Nat), i < lN (zD x z) → a8 (gD (zD x z) i (0 : UInt8)) = a8 (gD l i (0 : UInt8))) ∧ l = itoa q1)))))))
 (0 < 1 ∧ ∃ (l : List UInt8), lN l = 1 ∧ (∀ (i : Nat), i < 1 → Sx.rowAt [fun (x : Nat) => AV.v (Value.int IntKind.u8 (45 : Int))] i 0 = a8 (gD l i (0 : UInt8))) ∧ l = itoa q1))) (bF q2 (zY q4 (bF q5 (q6 ∧ bF q2 (zY q8 (bF q9 (q13 ∧ bF (DB.db (lN q15 * 1 ≤ 140737488355328)) (bF (DB.db ((lN q15 + lN q12) * 1 ≤ 140737488355328)) (bF q16 ((∃ (z : Nat), ((z < lN (Big.l x) ∧ z < lN (Big.l x) + 1) ∧ nat_lit 3 = 3 ∧ (nat_lit 2 = 2 ∧ 0 = 0) ∧ IntKind.i64 =
 .i64 ∧ (lZ (Big.l x)) - iO - iO = (cI z) - iO) ∧ (((((q17 ∧ 174 = 174 ∧ 2 = 2 ∧ (1 = 1 ∧ 0 = 0) ∧ nat_lit 6 = 6 ∧ 0 = 0 ∧ lN (zD x z) = lN q15 + lN q12) ∧ 50 = 50 ∧ 1 = 1 ∧ zB q18 q18) ∧ lR) ∧ True) ∧ True) ∧ (5 : TypeId) = 5 ∧ 1 = 1 ∧ lN (zD x z) = lN q15 + lN q12 ∧ ∀ (i j : Nat), i < lN q15 + lN q12 → j < 1 → zB (if i < lN q15 then a8 (gD q15 i (0 : UInt8))
 else a8 (gD q12 (i - lN q15) (0 : UInt8))) (a8 (gD (zD x z) i (0 : UInt8)))) ∧ ∀ (z : Nat), let q33 := (itoa (gD (Big.l x) (Int.toNat ((cI z) - iO)) zi.dflt)); let q32 := (lZ q33); let q31 := ((9 : Int) - q32); let q35 := (List.replicate (Int.toNat q31) (48 : UInt8)); let q34 := (lN (zD x z) + lN q35); let q36 := (dK ((cI z) - iO - iO)); z < lN (Big.l x) → zY (leB iZ
 ((cI z) - iO)) (bF (DB.db (iZ ≤ (cI z) - iO ∧ (cI z) - iO < (lZ (Big.l x)))) ((iN ≤ gD (Big.l x) (Int.toNat ((cI z) - iO)) zi.dflt ∧ gD (Big.l x) (Int.toNat ((cI z) - iO)) zi.dflt ≤ iX) ∧ bF q2 (zY (zH ((cI z) - iO) q3) (zY (dK q31) ((iZ ≤ (9 : Int) - q32 ∧ (9 : Int) - q32 ≤ (14 : Int)) ∧ bF (DB.db (q34 * 1 ≤ 140737488355328)) (bF (DB.db ((lN (zD x z) + lN q35 + List.length
 q33) * 1 ≤ 140737488355328)) (bF q36 (∃ (z' : Nat), ((z' < lN (Big.l x) ∧ z' < z) ∧ nat_lit 3 = 3 ∧ (nat_lit 2 = 2 ∧ 0 = 0) ∧ kI ∧ (cI z) - iO - iO = (cI z') - iO) ∧ (((((q17 ∧ 174 = 174 ∧ 2 = 2 ∧ (1 = 1 ∧ 0 = 0) ∧ nat_lit 6 = 6 ∧ 0 = 0 ∧ lN (zD x z') = lN (zD x z) + lN q35 + lN q33) ∧ 50 = 50 ∧ 1 = 1 ∧ zB q18 q18) ∧ lR) ∧ True) ∧ True) ∧ (5 : TypeId) = 5 ∧ 1 = 1 ∧ lN (zD x z') = lN (zD x z) + lN q35 + List.length
 q33 ∧ ∀ (i j : Nat), i < lN (zD x z) + lN q35 + lN q33 → j < 1 → zB (if i < lN (zD x z) + lN q35 then if i < lN (zD x z) then a8 (gD (zD x z) i (0 : UInt8)) else a8 (gD q35 (i - lN (zD x z)) (0 : UInt8)) else a8 (gD q33 (i - q34) (0 : UInt8))) (a8 (gD (zD x z') i (0 : UInt8)))))))
 False) (bF (DB.db ((lN (zD x z) + lN q33) * 1 ≤ 140737488355328)) (bF q36 (∃ (z' : Nat), ((z' < lN (Big.l x) ∧ z' < z) ∧ nat_lit 3 = 3 ∧ (nat_lit 2 = 2 ∧ 0 = 0) ∧ kI ∧ (cI z) - iO - iO = (cI z') - iO) ∧ (((((q17 ∧ 174 = 174 ∧ 2 = 2 ∧ (1 = 1 ∧ 0 = 0) ∧ nat_lit 6 = 6 ∧ 0 = 0 ∧ lN (zD x z') = lN (zD x z) + lN q33) ∧ 50 = 50 ∧ 1 = 1 ∧ zB q18 q18) ∧ lR) ∧ True) ∧ True) ∧ (5 : TypeId) = 5 ∧ 1 = 1 ∧ lN (zD x z') = List.length
 (zD x z) + lN q33 ∧ ∀ (i j : Nat), i < lN (zD x z) + lN q33 → j < 1 → zB (if i < lN (zD x z) then a8 (gD (zD x z) i (0 : UInt8)) else a8 (gD q33 (i - lN (zD x z)) (0 : UInt8))) (a8 (gD (zD x z') i (0 : UInt8))))))))) (0 < lN (zD x z) ∧ ∃ (l : List UInt8), lN l = lN (zD x z) ∧ (∀ (i : Nat), i < lN (zD x z) →
 a8 (gD (zD x z) i (0 : UInt8)) = a8 (gD l i (0 : UInt8))) ∧ l = itoa q1)))))) (bF (DB.db (lN q12 * 1 ≤ 140737488355328)) (bF q16 ((∃ (z : Nat), ((z < lN (Big.l x) ∧ z < lN (Big.l x) + 1) ∧ nat_lit 3 = 3 ∧ (nat_lit 2 = 2 ∧ 0 = 0) ∧ kI ∧ (lZ (Big.l x)) - iO - iO = (cI z) - iO) ∧ ((((q17 ∧ 174 = 174 ∧ 2 = 2 ∧ (1 = 1 ∧ 0 = 0) ∧ nat_lit 5 = 5 ∧ 0 = 0 ∧ lN (zD x
 z) = lN q12) ∧ 50 = 50 ∧ 1 = 1 ∧ zB q18 q18) ∧ lR) ∧ True) ∧ (5 : TypeId) = 5 ∧ 1 = 1 ∧ lN (zD x z) = lN q12 ∧ ∀ (i j : Nat), i < lN q12 → j < 1 → IntKind.u8 = IntKind.u8 ∧ (cI (UInt8.toNat (gD q12 i (0 : UInt8)))) = (cI (UInt8.toNat (gD (zD x z) i (0 : UInt8))))) ∧ ∀ (z : Nat), let q39 := (itoa (gD (Big.l x) (Int.toNat ((cI z) - iO)) zi.dflt)); let q38 := (lZ q39); let q37 := ((9 : Int) - q38); let q41 := (List.replicate (Int.toNat q37) (48 :
 UInt8)); let q40 := (lN (zD x z) + lN q41); let q42 := (dK ((cI z) - iO - iO)); z < lN (Big.l x) → zY (leB iZ ((cI z) - iO)) (bF (DB.db (iZ ≤ (cI z) - iO ∧ (cI z) - iO < (lZ (Big.l x)))) ((iN ≤ gD (Big.l x) (Int.toNat ((cI z) - iO)) zi.dflt ∧ gD (Big.l x) (Int.toNat ((cI z) - iO)) zi.dflt ≤ iX) ∧ bF q2 (zY (zH ((cI z) - iO) q3) (bF (DB.db (Y1 .i64
 q37)) ((iZ ≤ (9 : Int) - q38 ∧ (9 : Int) - q38 ≤ (14 : Int)) ∧ bF (DB.db (q40 * 1 ≤ 140737488355328)) (bF (DB.db ((lN (zD x z) + lN q41 + lN q39) * 1 ≤ 140737488355328)) (bF q42 (∃ (z' : Nat), ((z' < lN (Big.l x) ∧ z' < z) ∧ nat_lit 3 = 3 ∧ (nat_lit 2 = 2 ∧ 0 = 0) ∧ kI ∧ (cI z) - iO - iO = (cI z') - iO) ∧ ((((q17 ∧ 174 = 174 ∧ 2 = 2 ∧ (1 = 1 ∧ 0 = 0) ∧ nat_lit 5 = 5 ∧ 0 = 0 ∧ lN (zD x z') = lN (zD x z) + lN q41 + lN q39) ∧ 50 = 50 ∧ 1 = 1 ∧ zB q18 q18) ∧
 lR) ∧ True) ∧ (5 : TypeId) = 5 ∧ 1 = 1 ∧ lN (zD x z') = lN (zD x z) + lN q41 + lN q39 ∧ ∀ (i j : Nat), i < lN (zD x z) + lN q41 + lN q39 → j < 1 → zB (if i < lN (zD x z) + lN q41 then if i < lN (zD x z) then a8 (gD (zD x z) i (0 : UInt8)) else a8 (gD q41 (i - lN (zD x z)) (0 : UInt8)) else AV.v (Value.int IntKind.u8
 (cI (UInt8.toNat (gD q39 (i - q40) (0 : UInt8)))))) (a8 (gD (zD x z') i (0 : UInt8)))))))) (bF (DB.db ((lN (zD x z) + lN q39) * 1 ≤ 140737488355328)) (zY q42 (∃ (z' : Nat), ((z' < lN (Big.l x) ∧ z' < z) ∧ nat_lit 3 = 3 ∧ (nat_lit 2 = 2 ∧ 0 = 0) ∧ kI ∧ (cI z) - iO - iO = (cI z') - iO) ∧ ((((q17 ∧ 174 = 174 ∧ 2 = 2 ∧ (1 = 1 ∧ 0 = 0) ∧ nat_lit 5 = 5 ∧ 0 = 0 ∧ lN (zD x z') = lN (zD x z) + lN q39)
 ∧ 50 = 50 ∧ 1 = 1 ∧ zB q18 q18) ∧ lR) ∧ True) ∧ (5 : TypeId) = 5 ∧ 1 = 1 ∧ lN (zD x z') = lN (zD x z) + lN q39 ∧ ∀ (i j : Nat), i < lN (zD x z) + lN q39 → j < 1 → zB (if i < lN (zD x z) then a8 (gD (zD x z) i (0 : UInt8)) else a8 (gD q39 (i - lN (zD x z)) (0 : UInt8))) (a8 (gD (zD x z') i (0 : UInt8))))
 False))))) (0 < lN (zD x z) ∧ ∃ (l : List UInt8), lN l = lN (zD x z) ∧ (∀ (i : Nat), i < lN (zD x z) → a8 (gD (zD x z) i (0 : UInt8)) = a8 (gD l i (0 : UInt8))) ∧ l = itoa q1))))))) ([] = itoa q1)))) := by
 delta bF dK bA a8 xI lR cI kI lZ lN gD iZ iO iX iN iB
 dsimp only
 intro hb
 have e0 : (zi.dflt : Int) = 0 := rfl
 simp only [↓ZE, ↓ZR, row_one]
 simp only [sS, dS, e0]
 refine ⟨fun hz => ?_, fun hz => ?_⟩
 ·have he : x.l = [] := List.eq_nil_of_length_eq_zero (by omega)
  rw [he]
  have : itoa ((0 : Nat) : Int) = [48] := by rw [Go.Ar.ym, z7 (by omega)]; rfl
  cases x.neg <;> exact this.symm
 have h0 : 0 < x.l.length := by omega
 have en : ((x.l.length : Int) - 1).toNat = x.l.length - 1 := by omega
 have ez : ∀ z : Nat, ((z : Int) - 1).toNat = z - 1 := fun z => by omega
 simp only [en, ez, Nat.mul_one]
 have gN := hx.get (by omega) (x.l.length - 1)
 obtain ⟨i1, i2, i3⟩ := Wb gN.1 gN.2
 have f1 := mF hx h0
 refine zv.2 ⟨fun c => ⟨⟨by omega, by omega⟩, fun _ => ⟨⟨by omega, by omega⟩, ⟨by omega, by omega⟩, ⟨by omega, by omega⟩, fun h => absurd h (by omega), fun _ => ⟨by omega, ⟨by omega, by omega⟩, ⟨x.l.length - 1, ⟨⟨by omega, by omega⟩, by omega⟩, ?_, ?_, fun i j _ _ => ?_⟩, ?_⟩⟩, fun h => absurd h (by omega)⟩,
  fun c => ⟨⟨by omega, by omega⟩, fun _ => ⟨⟨by omega, by omega⟩, ⟨by omega, by omega⟩, ⟨by omega, by omega⟩, fun h => absurd h (by omega), fun _ => ⟨by omega, ⟨by omega, by omega⟩, ⟨x.l.length - 1, ⟨⟨by omega, by omega⟩, by omega⟩, ?_, ?_, fun i j _ _ => ?_⟩, ?_⟩⟩, fun h => absurd h (by omega)⟩⟩
 all_goals try rw [c] at f1
 ·rw [f1]; simp only [cond_true, List.length_append, List.length_singleton]
 ·rw [f1]; simp only [cond_true, List.length_append, List.length_singleton]
 ·rw [f1]; exact FI 45 _ i
 rotate_left
 ·rw [f1]; rfl
 ·rw [f1]; rfl
 ·rw [f1]; rfl
 all_goals
  intro z hz1
  have wl := Ij hx z
  refine ⟨fun hz2 => ?_, fun hz2 => ?_⟩
  ·have g := hx.get (by omega) (z - 1)
   obtain ⟨g1, g2, g3⟩ := Wb g.1 g.2
   have hs := Kx hx ht (z := z) (by omega) hz1
   have lr : (List.replicate (9 - ((itoa (x.l.getD (z - 1) 0)).length : Int)).toNat (48 : UInt8)).length ≤ 8 := by rw [List.length_replicate]; omega
   refine ⟨⟨by omega, by omega⟩, ⟨by omega, by omega⟩, ⟨by omega, by omega⟩, fun _ => ⟨⟨by omega, by omega⟩, ⟨by omega, by omega⟩, by omega, by omega, ⟨by omega, by omega⟩, z - 1, ⟨⟨by omega, by omega⟩, by omega⟩, ?_, ?_, fun i j _ _ => ?_⟩, fun h => absurd h (by omega)⟩
   ·rw [hs, List.length_append, List.length_append]
   ·rw [hs, List.length_append, List.length_append]
   ·rw [hs]; exact FF _ _ _ i
  ·obtain rfl : z = 0 := by omega
   obtain ⟨w1, w2⟩ := Ht hx ht h0
   exact ⟨w2, zD x 0, rfl, fun _ _ => rfl, w1⟩
theorem Mb {G : List (Nat × Obj)} (hG : zh G) (x : Big) (hx : z8 1000000000 x.l) (ht : zO x.l = x.l) (hl : x.l.length ≤ 100000000) : zT Tryz.prog G 160 [yw x] (.str (itoa (bif x.neg then - zX 1000000000 x.l else zX 1000000000 x.l))) :=
 zU (T := Ev G) (an := iJ x) mixed (OG hG) (Eq.mp (by kernel_rfl) (Nj G x hx ht hl))
theorem ma {G : List (Nat × Obj)} (hG : zh G) : zQ Tryz.prog G 160 tv := by
 intro xs ps r h hp
 unfold tv at h
 split at h
 ·skip
  rename_i x_x
  cases h
  obtain ⟨q0, q1, q2, q3, -⟩ := Zo hp
  exact weaken (ys := [yw (Zi (α := Big) x_x)]) ⟨zc q0, trivial⟩ (Mb hG (Zi (α := Big) x_x) q1 q2 q3)
 ·cases h
end Go.Te

namespace Go.Te
open Go Go.Sx Go.Proofs Go.Ar
set_option maxRecDepth 100000
set_option maxHeartbeats 4000000
def yG (n : Bool) (l : List Int) : Int := bif n then - zX 1000000000 l else zX 1000000000 l
theorem qA (x : Big) : Zi (AV.agg 2 fun i => zi.enc x i) = x := Ow x
theorem SL (x : Big) : yZ Big (AV.agg 2 fun i => zi.enc x i) = true := qB x
theorem ml (n : Int) : (zu (Lib.itoa n)).length = TA n := by
 obtain ⟨h1, h2⟩ := ya n
 rw [← (SG (Lib.itoa n)).2, wH h1, h2]
def WC : List AV → Option (List zn × AV)
 | [x_x] => some ([.b (yZ Big x_x), .p (z8 1000000000 (Zi (α := Big) x_x).l), .p (zO (Zi (α := Big) x_x).l = (Zi (α := Big) x_x).l), .p ((Zi (α := Big) x_x).l.length ≤ 100000000)], .tup 2 (zt [.str (yp (yG (Zi (α := Big) x_x).neg (Zi (α := Big) x_x).l)), .i (ZU (yG (Zi (α := Big) x_x).neg (Zi (α := Big) x_x).l))]))
 | _ => none
theorem oX (G : List (Nat × Obj)) (x : Big) (hx : z8 1000000000 x.l) (ht : zO x.l = x.l) (hl : x.l.length ≤ 100000000) :
 let q1 := (AV.agg 2 fun (i : Nat) => zi.enc x (0 + i)); let q3 := (Zi q1); let q2 := (Big.l q3); let q4 := (bif Big.neg q3 then -zX iB q2 else zX iB q2); ZY [AV.agg 2 (zi.enc x)] → bF (yZ Big q1) ((∀ (x_1 : Int), List.Mem x_1 q2 → iZ ≤ x_1 ∧ x_1 < iB) ∧ zO q2 = Big.l q3 ∧ lN q2 ≤ 100000000 ∧ zY (zH (300 : Int) (lZ (zu (Lib.itoa q4)))) (j2 ∧ (True ∧ bA #[] = yp (yG (Big.neg x) (Big.l x))) ∧ kI ∧ (4
 : Int) = ZU (yG (Big.neg x) (Big.l x))) (j2 ∧ (True ∧ Lib.itoa q4 = yp (yG (Big.neg x) (Big.l x))) ∧ kI ∧ iZ = ZU (yG (Big.neg x) (Big.l x)))) := by
 delta bF bA kI j2 lZ lN iZ iB
 dsimp only
 intro hb
 have e0 : (zi.dflt : Int) = 0 := rfl
 simp only [↓ZE, ↓ZR, row_one]
 simp only [sS, dS, e0, qA, SL]
 refine ⟨hx, ht, hl, fun h => ?_, fun h => ?_⟩
 all_goals
  have hn := ml (yG x.neg x.l)
  unfold yG at hn
  rw [hn] at h
  unfold yp ZU yG
 ·rw [(zA _ _).2 (show 300 < TA _ by omega)]
  exact ⟨rfl, rfl, rfl⟩
 ·rw [show Nat.blt 300 (TA (bif x.neg then - zX 1000000000 x.l else zX 1000000000 x.l)) = false from Bool.eq_false_iff.2 fun e => by have := (zA _ _).1 e; omega]
  exact ⟨rfl, rfl, rfl⟩
theorem Oh {G : List (Nat × Obj)} (hG : zh G) (x : Big) (hx : z8 1000000000 x.l) (ht : zO x.l = x.l) (hl : x.l.length ≤ 100000000) : zT Tryz.prog G 100 [yw x] (.tup 2 (zt [.str (yp (yG x.neg x.l)), .i (ZU (yG x.neg x.l))])) :=
 zU (T := ((Kk G).plus 160 tv).plus 83 (YF fun s => .str (zu s))) (an := .auto) mixed (zZ.plus (zZ.plus (Yj hG) (ma hG)) (zQ.mono Ui)) (Eq.mp (by kernel_rfl) (oX G x hx ht hl))
theorem SP {G : List (Nat × Obj)} (hG : zh G) : zQ Tryz.prog G 100 WC := by
 intro xs ps r h hp
 unfold WC at h
 split at h
 ·skip
  rename_i x_x
  cases h
  obtain ⟨q0, q1, q2, q3, -⟩ := Zo hp
  exact weaken (ys := [yw (Zi (α := Big) x_x)]) ⟨zc q0, trivial⟩ (Oh hG (Zi (α := Big) x_x) q1 q2 q3)
 ·cases h
def tG (xs : List AV) : Option (List zn × AV) :=
 match RS xs with
 | some r => some r
 | none => Sf xs
theorem QD : zQ Tryz.prog [] 137 tG := by
 intro xs ps r h hp
 unfold tG at h
 split at h
 ·rename_i r' h'
  cases h
  exact jb _ _ _ h' hp
 ·exact kM _ _ _ h hp
noncomputable def eH : Tb := (T0.plus 137 tG).plus 139 tj
theorem Nu : zZ Tryz.prog eH := zZ.plus (zZ.plus zq QD) Qe
def OT (x y : Big) : Bool := bif x.neg == y.neg then x.neg else bif leB 0 (cmpL x.l y.l) then x.neg else y.neg
def qC (x y : Big) : Int := bif x.neg == y.neg then zX 1000000000 x.l + zX 1000000000 y.l else bif leB 0 (cmpL x.l y.l) then zX 1000000000 x.l - zX 1000000000 y.l else zX 1000000000 y.l - zX 1000000000 x.l
theorem qk {x y : List Int} (hx : z8 1000000000 x) (hy : z8 1000000000 y) (tx : zO x = x) (ty : zO y = y) : (0 ≤ cmpL x y ↔ zX 1000000000 y ≤ zX 1000000000 x) := by
 have e1 : x = zw 1000000000 (zX 1000000000 x).toNat := YO (b := 1000000000) (by omega) hx tx
 have e2 : y = zw 1000000000 (zX 1000000000 y).toNat := YO (b := 1000000000) (by omega) hy ty
 have v1 := zK (b := 1000000000) (by omega) hx
 have v2 := zK (b := 1000000000) (by omega) hy
 have c := (uJ (b := 1000000000) (by omega) (zX 1000000000 x).toNat (zX 1000000000 y).toNat).1
 rw [← e1, ← e2] at c
 omega
def Ps : List AV → Option (List zn × AV)
 | [x_x, x_y] => some ([.b (yZ Big x_x), .b (yZ Big x_y), .p (z8 1000000000 (Zi (α := Big) x_x).l), .p (z8 1000000000 (Zi (α := Big) x_y).l), .p (zO (Zi (α := Big) x_x).l = (Zi (α := Big) x_x).l), .p (zO (Zi (α := Big) x_y).l = (Zi (α := Big) x_y).l), .p ((Zi (α := Big) x_x).l.length ≤ 1000000000), .p ((Zi (α := Big) x_y).l.length ≤ 1000000000)], .agg 2 (zt [.b (OT (Zi (α := Big) x_x) (Zi (α := Big) x_y)), ZF (zw 1000000000 (qC (Zi (α := Big) x_x) (Zi (α := Big) x_y)).toNat)]))
 | _ => none
theorem Jw (x : Big) (y : Big) (hx : z8 1000000000 x.l) (hy : z8 1000000000 y.l) (tx : zO x.l = x.l) (ty : zO y.l = y.l) (lx : x.l.length ≤ 1000000000) (ly : y.l.length ≤ 1000000000) :
 let q2 := (xI (Big.l x)); let q1 := (Zy Int q2); let q4 := (xI (Big.l y)); let q3 := (Zy Int q4); let q6 := (zW q2); let q5 := (∀ (x_1 : Int), List.Mem x_1 q6 → iZ ≤ x_1 ∧ x_1 < iB); let q8 := (zW q4); let q7 := (∀ (x : Int), List.Mem x q8 → iZ ≤ x ∧ x < iB); let q9 := (zw 1000000000 (Int.toNat (qC x y))); let q10 := (zw 1000000000 (Int.toNat (zX
 iB q6 + zX iB q8))); let q11 := (zw 1000000000 (Int.toNat (zX iB q6 - zX iB q8))); let q12 := (zw 1000000000 (Int.toNat (zX iB q8 - zX iB q6))); ZY [AV.agg 2 (zi.enc x), AV.agg 2 (zi.enc y)] → zY (Big.neg x == Big.neg y) (bF q1 (bF q3 (q5 ∧ q7 ∧ lN q6 ≤ 1000000000 ∧ lN q8 ≤ 1000000000 ∧ 2 = 2 ∧ Big.neg x = OT x y ∧ (false = true → false = true) ∧ 1 = 1 ∧ lN q9 = lN q10 ∧ ∀ (i j : Nat), i < lN q10 → j < 1 → IntKind.i64 =
 .i64 ∧ gD q10 i zi.dflt = gD q9 i zi.dflt))) (bF q1 (bF q3 (q5 ∧ q7 ∧ zY (leB iZ (cmpL q6 q8)) (bF q1 (bF q3 (q5 ∧ q7 ∧ lN q6 ≤ 1000000000 ∧ lN q8 ≤ 1000000000 ∧ zX iB q8 ≤ zX iB q6 ∧ 2 = 2 ∧ Big.neg x = OT x y ∧ (false = true → false = true) ∧ 1 = 1 ∧ lN q9 = lN q11 ∧ ∀ (i j : Nat), i < lN q11 → j < 1 → kI ∧ gD q11 i zi.dflt = gD q9 i zi.dflt))) (bF q3 (bF q1 (q7 ∧ q5 ∧ lN q8 ≤ 1000000000 ∧
 lN q6 ≤ 1000000000 ∧ zX iB q6 ≤ zX iB q8 ∧ 2 = 2 ∧ Big.neg y = OT x y ∧ (false = true → false = true) ∧ 1 = 1 ∧ lN q9 = lN q12 ∧ ∀ (i j : Nat), i < lN q12 → j < 1 → kI ∧ gD q12 i zi.dflt = gD q9 i zi.dflt)))))) := by
 delta bF xI kI lN gD iZ iB
 dsimp only
 intro hb
 have e0 : (zi.dflt : Int) = 0 := rfl
 simp only [↓ZE, ↓ZR, row_one]
 simp only [sS, dS, e0]
 refine zv.2 ⟨fun c => ⟨hx, hy, lx, ly, ?_, fun h => h, ?_, fun i j _ _ => ?_⟩, fun c => ⟨hx, hy, fun h => ⟨hx, hy, lx, ly, (qk hx hy tx ty).1 h, ?_, fun h => h, ?_, fun i j _ _ => ?_⟩, fun h => ⟨hy, hx, ly, lx, ?_, ?_, fun h => h, ?_, fun i j _ _ => ?_⟩⟩⟩
 any_goals (unfold OT; rw [c]; first | rfl | (rw [show leB 0 (cmpL x.l y.l) = true from (ze _ _).2 h]; rfl) | (rw [show leB 0 (cmpL x.l y.l) = false from Bool.eq_false_iff.2 fun e => by have := (ze _ _).1 e; omega]; rfl))
 any_goals (unfold qC; rw [c]; first | rfl | (rw [show leB 0 (cmpL x.l y.l) = true from (ze _ _).2 h]; rfl) | (rw [show leB 0 (cmpL x.l y.l) = false from Bool.eq_false_iff.2 fun e => by have := (ze _ _).1 e; omega]; rfl))
 have := qk hx hy tx ty
 omega
theorem IN (x : Big) (y : Big) (hx : z8 1000000000 x.l) (hy : z8 1000000000 y.l) (tx : zO x.l = x.l) (ty : zO y.l = y.l) (lx : x.l.length ≤ 1000000000) (ly : y.l.length ≤ 1000000000) : zT Tryz.prog [] 88 [yw x, yw y] (.agg 2 (zt [.b (OT x y), ZF (zw 1000000000 (qC x y).toNat)])) :=
 zU (T := eH) (an := .auto) mixed Nu (Eq.mp (by kernel_rfl) (Jw x y hx hy tx ty lx ly))
theorem HE : zQ Tryz.prog [] 88 Ps := by
 intro xs ps r h hp
 unfold Ps at h
 split at h
 ·skip
  rename_i x_x x_y
  cases h
  obtain ⟨q0, q1, q2, q3, q4, q5, q6, q7, -⟩ := Zo hp
  exact weaken (ys := [yw (Zi (α := Big) x_x), yw (Zi (α := Big) x_y)]) ⟨zc q0, zc q1, trivial⟩ (IN (Zi (α := Big) x_x) (Zi (α := Big) x_y) q2 q3 q4 q5 q6 q7)
 ·cases h
theorem My {x y : Big} (hx : z8 1000000000 x.l) (hy : z8 1000000000 y.l) (tx : zO x.l = x.l) (ty : zO y.l = y.l) :
  0 ≤ qC x y ∧ (bif OT x y then - qC x y else qC x y) = yG x.neg x.l + yG y.neg y.l := by
 have v1 := zK (b := 1000000000) (by omega) hx
 have v2 := zK (b := 1000000000) (by omega) hy
 have c := qk hx hy tx ty
 unfold OT qC yG
 cases hl : leB 0 (cmpL x.l y.l) with
 | true =>
  rw [ze, c] at hl
  cases x.neg <;> cases y.neg <;> simp <;> omega
 | false =>
  have hl : ¬ 0 ≤ cmpL x.l y.l := fun e => by rw [(ze _ _).2 e] at hl; cases hl
  rw [c] at hl
  cases x.neg <;> cases y.neg <;> simp <;> omega
end Go.Te

namespace Go.Te
open Go Go.Sx Go.Proofs Go.Ar
set_option maxRecDepth 100000
set_option maxHeartbeats 4000000
def Zj : OB → List Int
 | .arr _ _ n els => (List.range n).map fun i => AV.int (els i 0)
 | _ => []
theorem eX (l : List Int) : Zj (OB.arr 3 1 l.length fun i x => AV.v (Value.int IntKind.i64 (l.getD i 0))) = l := by
 have e : ((List.range l.length).map fun i => l.getD i 0) = l := by
  apply List.ext_getElem
  ·simp
  ·intro i h1 h2
   rw [List.getElem_map, List.getElem_range, List.getD_eq_getElem?_getD, List.getElem?_eq_getElem h2]
   rfl
 exact e
def Ss  : Z9 :=
 .two .auto (.two (.one (.loop Nat (fun σ z => [(0, .ns (yd (σ.tm 0)) 0 z)]) (fun σ z => []) 0 (fun σ z => z ≤ (Zj (σ.bl (yd (σ.tm 0)))).length ∧ ∀ i, z ≤ i → (Zj (σ.bl (yd (σ.tm 0)))).getD i 0 = 0) (fun σ z => z) .auto)) .auto)
theorem sr {l : List Int} {z : Nat} (h1 : z ≤ l.length) (h2 : ∀ i, z ≤ i → l.getD i 0 = 0) (c : (zH 0 (z : Int) && l.getD ((z : Int) - 1).toNat 0 == 0) = false) : zO l = l.take z := by
 refine wT h1 h2 ?_
 by_cases hz : z = 0
 ·exact .inl hz
 ·refine .inr fun e => ?_
  rw [(zR _ _).2 (by omega), show ((z : Int) - 1).toNat = z - 1 by omega, e] at c
  cases c
theorem sk {l : List Int} {z : Nat} (h2 : ∀ i, z ≤ i → l.getD i 0 = 0) (c : (zH 0 (z : Int) && l.getD ((z : Int) - 1).toNat 0 == 0) = true) : 0 < z ∧ ∀ i, z - 1 ≤ i → l.getD i 0 = 0 := by
 rw [Bool.and_eq_true, beq_iff_eq, zR] at c
 have c2 := c.2
 rw [show ((z : Int) - 1).toNat = z - 1 by omega] at c2
 refine ⟨by omega, fun i hi => ?_⟩
 by_cases e : i = z - 1
 ·rw [e]; exact c2
 ·exact h2 i (by omega)
theorem EF {l m : List Int} {z : Nat} (hz : z ≤ m.length) (h : m.take z = l) : zB (AV.xl false 1 z fun i x => AV.v (Value.int IntKind.i64 (m.getD i 0))) (AV.xl false 1 l.length fun i j => AV.v (Value.int IntKind.i64 (l.getD i 0))) := by
 have hl : z = l.length := by rw [← h, List.length_take]; omega
 rw [← hl]
 refine ⟨fun h => h, rfl, rfl, fun i j hi _ => ?_⟩
 rw [← h]
 show zB (AV.v (Value.int IntKind.i64 (m.getD i 0))) (AV.v (Value.int IntKind.i64 ((m.take z).getD i 0)))
 rw [YL hi]
 exact zr _
noncomputable def eK : Tb := (T0.plus 136 vV).body Tryz.prog [(191, .auto), (136, Ss)]
theorem NV : zZ Tryz.prog eK := zZ.body mixed (zZ.plus zq Uh) _
structure YG where
 z : Nat
 q : List Int
 r : Int
def Hc (a : List Int) (d : Int) : Z9 :=
 .two .auto (.one (.loop YG (fun σ z => [(0, σ.tm 0), (1, σ.tm 1), (3, .i ((z.z : Int) - 1))]) (fun _ z => [(2, WZ z.q), (3, .box 3 1 fun _ => .i z.r)]) 0
  (fun _ z => UI 1000000000 d a z.z z.q z.r) (fun _ z => z.z) .auto))
def IB (a : List Int) (d : Int) : Z9 :=
 .two .auto (.two .auto (.two .auto (.two (.two .auto (.one (.range (Hc a d) .auto .auto))) .auto)))
def SF : List AV → Option (List zn × AV)
 | [x_a, .v (.int .i64 d)] => some ([.b (Zy Int x_a), .p (z8 1000000000 (zW x_a)), .p (0 < d ∧ d ≤ 1000000000), .p ((zW x_a).length ≤ 1000000000)], .tup 2 (zt [ZF (zw 1000000000 ((zX 1000000000 (zW x_a)).toNat / d.toNat)), ZF (zw 1000000000 ((zX 1000000000 (zW x_a)).toNat % d.toNat))]))
 | _ => none
theorem N5 (a : List Int) (d : Int) (ha : z8 1000000000 a) (hd : 0 < d ∧ d ≤ 1000000000) (hl : a.length ≤ 1000000000) :
 let q1 := ((3 = 3 ∧ 1 = 1 ∧ kI ∧ d = d) ∧ 50 = 50 ∧ 1 = 1 ∧ nat_lit 2 = 2 ∧ 0 = 0 ∧ Int.toNat (lZ a) = Int.toNat (lZ a)); let q2 := (xI a); let q13 := (zw 1000000000 (Int.toNat (zX iB a) / Int.toNat d)); let q12 := (xI q13); let q17 := (zw 1000000000 (Int.toNat (zX iB a) % Int.toNat d)); let q16 := (AV.xl false 1 (lN q17) fun i
 j => aI (gD q17 i zi.dflt)); ZY [xI a, aI d] → bF (DB.db (iZ ≤ (lZ a) ∧ (lZ a) ≤ (lZ a) ∧ (↑8 : Int) * (lZ a) ≤ (140737488355328 : Int))) (bF (dK ((lZ a) - iO)) ((∃ (z : YG), (UI iB d a (YG.z z) (YG.q z) (YG.r z) ∧ nat_lit 5 = 5 ∧ (nat_lit 4 = 4 ∧ 0 = 0) ∧ kI ∧ (lZ a) - iO =
 (cI (YG.z z)) - iO) ∧ (((q1 ∧ (3 : TypeId) = 3 ∧ 1 = 1 ∧ lN (YG.q z) = Int.toNat (lZ a) ∧ ∀ (i j : Nat), i < Int.toNat (lZ a) → j < 1 → zB (ZD (Value.int .i64 iZ) j) (aI (gD (YG.q z) i iZ))) ∧ (3 : TypeId) = 3 ∧ 1 = 1 ∧ kI ∧ iZ = YG.r z) ∧ 50 = 50 ∧ 1 = 1 ∧ zB q2 q2) ∧ lR) ∧ ∀ (z : YG), let q3 := (gD a (Int.toNat ((cI (YG.z z)) - iO)) zi.dflt + YG.r z * iB); let q4 := (Int.tdiv
 q3 d); let q6 := (bF (dK ((cI (YG.z z)) - iO - iO)) (∃ (z' : YG), ((UI iB d a (YG.z z') (YG.q z') (YG.r z') ∧ YG.z z' < YG.z z) ∧ nat_lit 5 = 5 ∧ (nat_lit 4 = 4 ∧ 0 = 0) ∧ kI ∧ (cI (YG.z z)) - iO - iO = (cI (YG.z z')) - iO) ∧ (((q1 ∧ 3 = 3 ∧ 1 = 1 ∧ lN (YG.q z') = lN (YG.q z) ∧ ∀ (i j : Nat), i < lN (YG.q z) → j < 1 → zB (if i = 0 + Int.toNat ((cI (YG.z z)) - iO) ∧ 0 ≤ j ∧ j < 1 then aI q4 else aI (List.getD
 (YG.q z) i iZ)) (aI (gD (YG.q z') i iZ))) ∧ 3 = 3 ∧ 1 = 1 ∧ kI ∧ Int.tmod q3 d = YG.r z') ∧ 50 = 50 ∧ 1 = 1 ∧ zB q2 q2) ∧ lR)); let q5 := ((bF (DB.db (d ≠ iZ)) q6 ∧ bF (DB.db (d ≠ iZ)) q6) ∧ bF (DB.db (d ≠ iZ)) q6); let q9 := (Zj (OB.arr (3 : TypeId) 1 (lN (YG.q z)) fun (i x : Nat) => aI (gD (YG.q z) i iZ))); let q10 := (((q1 ∧ 3 = 3 ∧ 1 = 1 ∧ lN (YG.q z) = List.length
 (YG.q z) ∧ ∀ (i j : Nat), i < lN (YG.q z) → j < 1 → kI ∧ gD (YG.q z) i iZ = gD (YG.q z) i iZ) ∧ 3 = 3 ∧ 1 = 1 ∧ kI ∧ YG.r z = YG.r z) ∧ 50 = 50 ∧ 1 = 1 ∧ zB q2 q2); let q8 := (∃ (z_1 : Nat), ((z_1 ≤ lN q9 ∧ ∀ (i : Nat), z_1 ≤ i → gD (Zj (OB.arr (3 : TypeId) 1 (lN (YG.q z)) fun (i x : Nat) => aI (gD (YG.q z) i iZ))) i iZ = iZ) ∧ nat_lit 2 = 2 ∧ 0 = 0 ∧ z_1 = Int.toNat (lZ a)) ∧ q10 ∧ True); let q15 := (zO (zW (AV.xl
 true 1 1 (Sx.rowAt [fun (x : Nat) => aI (YG.r z)])))); let q14 := (xI q15); let q7 := (q8 ∧ ∀ (z_1 : Nat), let q11 := (!zS true (zH iZ (cI z_1)) || zS true (zH iZ (cI z_1))); (z_1 ≤ lN q9 ∧ ∀ (i : Nat), z_1 ≤ i → gD (Zj (OB.arr (3 : TypeId) 1 (lN (YG.q z)) fun (i x : Nat) => aI (gD (YG.q z) i iZ))) i iZ = iZ) → bF q11 (bF q11 (bF (!zS true (zH iZ (cI z_1)) ||
 dK ((cI z_1) - iO)) (bF q11 (bF q11 (bF (!zS true (zH iZ (cI z_1)) || DB.db (iZ ≤ (cI z_1) - iO ∧ (cI z_1) - iO < (cI z_1))) (bF q11 (bF q11 (bF (!zH iZ (cI z_1) || zS true (zH iZ (cI z_1))) (zY (bif zH iZ (cI z_1) then gD (YG.q z) (0 + Int.toNat ((cI z_1) - iO)) iZ == iZ else false) (bF (dK ((cI z_1) - iO)) (bF (DB.db (iZ ≤ (cI z_1) - iO ∧ (cI z_1) - iO ≤ (↑z_1 :
 Int))) (∃ (z' : Nat), (((z' ≤ lN q9 ∧ ∀ (i : Nat), z' ≤ i → gD (Zj (OB.arr (3 : TypeId) 1 (lN (YG.q z)) fun (i x : Nat) => aI (gD (YG.q z) i iZ))) i iZ = iZ) ∧ z' < z_1) ∧ nat_lit 2 = 2 ∧ 0 = 0 ∧ z' = Int.toNat ((cI z_1) - iO)) ∧ q10 ∧ True))) (j2 ∧ (True ∧ zB (AV.xl false 1 z_1 fun i j => aI (gD (YG.q z) (0 + i) iZ)) q12) ∧ zB q14 q16))))))))))); UI iB d a
 (YG.z z) (YG.q z) (YG.r z) → zY (leB iZ ((cI (YG.z z)) - iO)) (bF (DB.db (iZ ≤ (cI (YG.z z)) - iO ∧ (cI (YG.z z)) - iO < (lZ a))) (bF (dK (YG.r z * iB)) (bF (dK q3) (bF (DB.db (d ≠ iZ)) (bF (dK q4) (bF (DB.db (iZ ≤ (cI (YG.z z)) - iO ∧ (cI (YG.z z)) - iO < (cI (Int.toNat (lZ a))))) (q5 ∧ q5 ∧ bF (DB.db (d ≠ iZ)) q6))))))) (q7 ∧
 q7 ∧ q8 ∧ ∀ (z_1 : Nat), let q18 := (!zS true (zH iZ (cI z_1)) || zS true (zH iZ (cI z_1))); (z_1 ≤ lN q9 ∧ ∀ (i : Nat), z_1 ≤ i → gD (Zj (OB.arr (3 : TypeId) 1 (lN (YG.q z)) fun (i x : Nat) => aI (gD (YG.q z) i iZ))) i iZ = iZ) → bF q18 (bF q18 (bF (!zS true (zH iZ (cI z_1)) || dK ((cI z_1) - iO)) (bF q18 (bF q18 (bF (!zS true (zH iZ (cI z_1)) || DB.db (iZ ≤ (cI z_1) - iO ∧ (cI z_1) - (1 :
 Int) < (cI z_1))) (bF q18 (bF q18 (bF (!zH iZ (cI z_1) || zS true (zH iZ (cI z_1))) (zY (bif zH iZ (cI z_1) then gD (YG.q z) (0 + Int.toNat ((cI z_1) - iO)) iZ == iZ else false) (bF (dK ((cI z_1) - iO)) (bF (DB.db (iZ ≤ (cI z_1) - iO ∧ (cI z_1) - iO ≤ (cI z_1))) (∃ (z' : Nat), (((z' ≤ lN q9 ∧ ∀ (i : Nat), z' ≤ i → gD (Zj (OB.arr (3 : TypeId) 1 (lN (YG.q z)) fun (i x : Nat) => aI (List.getD
 (YG.q z) i iZ))) i iZ = iZ) ∧ z' < z_1) ∧ nat_lit 2 = 2 ∧ 0 = 0 ∧ z' = Int.toNat ((cI z_1) - iO)) ∧ q10 ∧ True))) (j2 ∧ (True ∧ zB (AV.xl false 1 z_1 fun i j => aI (gD (YG.q z) (0 + i) iZ)) q12) ∧ zB q14 q16))))))))))))) := by
 delta bF dK xI lR cI kI j2 lZ lN gD iZ iO iB aI
 dsimp only
 intro hb
 have e0 : (zi.dflt : Int) = 0 := rfl
 simp only [↓ZE, ↓ZR, row_one]
 simp only [sS, dS, e0]
 simp only [and_self, eX, implies_true, and_true]
 obtain ⟨d0, d1⟩ := hd
 have va := zK (b := 1000000000) (by omega) ha
 refine ⟨⟨by omega, by omega, by omega⟩, ⟨by omega, by omega⟩, ⟨⟨a.length, List.replicate a.length 0, 0⟩, ⟨.start (by omega) d0 a, rfl⟩, ⟨by simp, fun i j _ hj => w5 _ i j hj⟩, rfl⟩, fun z z1 => ⟨fun hz => ?_, fun hz => ?_⟩⟩
 ·have zle := z1.le
  have zl := z1.len
  have R0 := z1.r0
  have R1 := z1.r1
  have hzk : z.z - 1 + 1 = z.z := by omega
  obtain ⟨⟨n0, n1⟩, hs⟩ := (hzk.symm ▸ z1 : UI 1000000000 d a (z.z - 1 + 1) z.q z.r).step (by omega) ha
  have ek : ((z.z : Int) - 1).toNat = z.z - 1 := by omega
  rw [ek]
  have xk := ha.get (by omega) (z.z - 1)
  have q1 := hs.in_.get (by omega) (z.z - 1)
  rw [yB _ _ _ _ (by omega), if_pos rfl] at q1
  generalize a.getD (z.z - 1) 0 + z.r * 1000000000 = N at *
  exact ⟨⟨by omega, by omega⟩, ⟨by omega, by omega⟩, ⟨by omega, by omega⟩, by omega, ⟨by omega, by omega⟩, ⟨by omega, by omega⟩, by omega, ⟨by omega, by omega⟩, ⟨z.z - 1, _, _⟩, ⟨⟨hs, by simp only; omega⟩, by simp only; omega⟩, ⟨by simp, fun i j _ => Up _ _ _ (by omega) i j⟩, rfl⟩
 ·have zl := z1.len
  have hz0 : z.z = 0 := by have := z1.le; omega
  obtain ⟨D, rfl⟩ : ∃ D : Nat, d = D := ⟨d.toNat, by omega⟩
  obtain ⟨X, hX⟩ : ∃ X : Nat, zX 1000000000 a = X := ⟨(zX 1000000000 a).toNat, by omega⟩
  obtain ⟨t1, _, t3⟩ := (hz0 ▸ z1 : UI 1000000000 D a 0 z.q z.r).end_ (b := 1000000000) (by omega) (by omega) (by omega) X hX
  rw [hX]
  simp only [Int.toNat_natCast]
  refine ⟨⟨a.length, ⟨by omega, fun i hi => X1 (by omega)⟩, rfl⟩, fun k ⟨k1, k2⟩ => ⟨fun h => ?_, fun h => ?_, zv.2 ⟨fun c => ?_, fun c => ?_⟩⟩⟩
  ·have := (zR _ _).1 h; exact ⟨by omega, by omega⟩
  ·have := (zR _ _).1 h; exact ⟨by omega, by omega⟩
  ·obtain ⟨c1, c2⟩ := sk k2 c
   exact ⟨⟨by omega, by omega⟩, ⟨by omega, by omega⟩, k - 1, ⟨⟨by omega, c2⟩, by omega⟩, by omega⟩
  ·have ht := sr k1 k2 c
   refine ⟨rfl, EF k1 (ht.symm.trans t1), ?_⟩
   have er : zW (AV.xl true 1 1 fun x j => AV.v (Value.int IntKind.i64 z.r)) = [z.r] := rfl
   rw [er, show zO [z.r] = zw 1000000000 (X % D) from t3]
   exact zr _
theorem JO (a : List Int) (d : Int) (ha : z8 1000000000 a) (hd : 0 < d ∧ d ≤ 1000000000) (hl : a.length ≤ 1000000000) : zT Tryz.prog [] 190 [ZF a, .i d] (.tup 2 (zt [ZF (zw 1000000000 ((zX 1000000000 a).toNat / d.toNat)), ZF (zw 1000000000 ((zX 1000000000 a).toNat % d.toNat))])) :=
 zU (T := eK) (an := IB a d) mixed NV (Eq.mp (by kernel_rfl) (N5 a d ha hd hl))
theorem K1 : zQ Tryz.prog [] 190 SF := by
 intro xs ps r h hp
 unfold SF at h
 split at h
 ·skip
  rename_i x_a d
  cases h
  obtain ⟨q0, q1, q2, q3, -⟩ := Zo hp
  exact weaken (ys := [ZF (zW x_a), .i d]) ⟨za q0, zr _, trivial⟩ (JO (zW x_a) d q1 q2 q3)
 ·cases h
def uh (b u2 v1 v2 : Int) : Nat → Int → Int → Int
 | 0, q, _ => q
 | n + 1, q, r => bif leB b q || (zH r b && zH (r * b + u2) (q * v2)) then (bif leB b (r + v1) then q - 1 else uh b u2 v1 v2 n (q - 1) (r + v1)) else q
def vg (b : Int) (u v : List Int) (j : Nat) : Int :=
 uh b (u.getD (j + v.length - 2) 0) (v.getD (v.length - 1) 0) (v.getD (v.length - 2) 0) ((u.getD (j + v.length) 0 * b + u.getD (j + v.length - 1) 0).tdiv (v.getD (v.length - 1) 0)).toNat
  ((u.getD (j + v.length) 0 * b + u.getD (j + v.length - 1) 0).tdiv (v.getD (v.length - 1) 0)) ((u.getD (j + v.length) 0 * b + u.getD (j + v.length - 1) 0).tmod (v.getD (v.length - 1) 0))
structure xS where
 q : Int
 r : Int
def KC (u v : List Int) (j : Int) : Z9 :=
 .two .auto (.two .auto (.two .auto (.two .auto (.two (.one (.loop xS (fun σ z => [(0, σ.tm 0), (1, σ.tm 1), (2, σ.tm 2), (7, σ.tm 7), (9, .i z.q), (10, .i z.r)]) (fun σ z => []) 0 (fun σ z => 0 ≤ z.q ∧ z.q ≤ 2000000000 ∧ 0 ≤ z.r ∧ z.r < 1000000000 ∧ uh 1000000000 (u.getD (j.toNat + v.length - 2) 0) (v.getD (v.length - 1) 0) (v.getD (v.length - 2) 0) z.q.toNat z.q z.r = vg 1000000000 u v j.toNat) (fun σ z => z.q.toNat) .auto)) .auto))))
def pc : List AV → Option (List zn × AV)
 | [x_u, x_v, .v (.int .i64 j)] => some ([.b (Zy Int x_u), .b (Zy Int x_v), .p (z8 1000000000 (zW x_u)), .p (z8 1000000000 (zW x_v)), .p (2 ≤ (zW x_v).length), .p ((zW x_v).length ≤ 1000000000), .p (0 ≤ j ∧ j + (zW x_v).length < (zW x_u).length), .p (0 < (zW x_v).getD ((zW x_v).length - 1) 0), .p ((zW x_u).getD (j.toNat + (zW x_v).length) 0 ≤ (zW x_v).getD ((zW x_v).length - 1) 0)], .i (vg 1000000000 (zW x_u) (zW x_v) j.toNat))
 | _ => none
theorem KI (u : List Int) (v : List Int) (j : Int) (hu : z8 1000000000 u) (hv : z8 1000000000 v) (hn : 2 ≤ v.length) (hl : v.length ≤ 1000000000) (hj : 0 ≤ j ∧ j + v.length < u.length) (h1 : 0 < v.getD (v.length - 1) 0) (hc : u.getD (j.toNat + v.length) 0 ≤ v.getD (v.length - 1) 0) :
 let q2 := (Y1 .i64 (j + (lZ v))); let q1 := (DB.db q2); let q3 := (Int.toNat (j + (lZ v))); let q4 := (j + (lZ v) - iO); let q5 := (gD u q3 zi.dflt * iB + gD u (Int.toNat q4) zi.dflt); let q6 := (dK ((lZ v) - iO)); let q7 := (DB.db (iZ ≤ (lZ v) - iO ∧ (lZ v) - iO < (lZ v))); let q9 := (Int.toNat ((lZ v) - iO)); let q8 := (DB.db (gD v q9 zi.dflt ≠ (0 :
 Int))); let q10 := (gD v q9 zi.dflt); let q11 := (gD u (Int.toNat j + lN v - 2) iZ); let q12 := (gD v (lN v - 1) iZ); let q13 := (gD v (lN v - 2) iZ); let q14 := (xI u); let q15 := (xI v); let q16 := (kI ∧ (lZ v) = (lZ v)); let q21 := (j + (lZ v) - (2 : Int)); ZY [AV.xl false 1
 (lN u) fun i j => aI (gD u i zi.dflt), xI v, aI j] → bF q1 (bF (DB.db (iZ ≤ j + (lZ v) ∧ j + (lZ v) < (lZ u))) (bF (dK (gD u q3 zi.dflt * iB)) (bF q1 (bF (dK q4) (bF (DB.db (iZ ≤ j + (lZ v) - iO ∧ j + (lZ v) - iO < (lZ u))) (bF (DB.db (Y1 .i64
 q5)) (bF q6 (bF q7 (bF q8 (bF (dK (Int.tdiv q5 q10)) (bF q6 (bF q7 (bF q8 ((∃ (z : xS), ((iZ ≤ xS.q z ∧ xS.q z ≤ (2000000000 : Int) ∧ iZ ≤ xS.r z ∧ xS.r z < iB ∧ uh iB q11 q12 q13 (Int.toNat (xS.q z)) (xS.q z) (xS.r z) = vg iB u v (Int.toNat j)) ∧ zB q14 q14 ∧ zB q15 q15 ∧ (kI ∧ j = j) ∧ q16 ∧ (kI ∧ Int.tdiv q5 q10 = xS.q z) ∧ kI ∧ Int.tmod q5 q10 = xS.r z) ∧ True) ∧ ∀ (z : xS), let q17 := (!zS false (leB iB
 (xS.q z)) || zS false (leB iB (xS.q z))); let q19 := (zS false (leB iB (xS.q z)) && zS true (zH (xS.r z) iB)); let q18 := (!q19 || zS false (leB iB (xS.q z)) && zS true (zH (xS.r z) iB)); let q20 := (xS.q z * gD v (Int.toNat ((lZ v) - (2 : Int))) zi.dflt); let q22 := (xS.r z * iB + gD u (Int.toNat q21) zi.dflt); let q23 := (xS.r z + gD v q9 zi.dflt); iZ ≤ xS.q z ∧ xS.q z ≤ (2000000000 : Int) ∧ iZ ≤ xS.r z ∧ xS.r z <
 iB ∧ uh iB q11 q12 q13 (Int.toNat (xS.q z)) (xS.q z) (xS.r z) = vg iB u v (Int.toNat j) → bF q17 (zY q17 (bF q18 (bF (!q19 || dK ((lZ v) - (2 : Int))) (bF q18 (bF q18 (bF (!q19 || DB.db (iZ ≤ (lZ v) - (2 : Int) ∧ (lZ v) - (2 : Int) < (lZ v))) (bF q18 (bF q18 (bF q18 (bF (!q19 || dK q20) (bF q18 (bF (!q19 || dK (xS.r z * iB)) (bF q18 (zY q18
 (bF (!q19 || DB.db q2) (bF q18 (bF (!q19 || dK q21) (bF q18 (bF q18 (bF (!q19 || DB.db (iZ ≤ j + (lZ v) - (2 : Int) ∧ j + (lZ v) - (2 : Int) < (lZ u))) (bF q18 (bF q18 (bF q18 (bF (!q19 || dK q22) (bF q18 (bF q18 (bF q17 (bF (!zS false (leB iB (xS.q z)) || (!zH (xS.r z) iB || zS false (leB iB (xS.q z)) && zS true (zH (xS.r z) iB))) (bF (!!leB iB (xS.q z) ||
 zS false (leB iB (xS.q z))) (zY (bif leB iB (xS.q z) then true else bif zH (xS.r z) iB then zH q22 q20 else false) (bF (dK (xS.q z - iO)) (bF q6 (bF q7 (bF (dK q23) (zY (leB iB q23) (kI ∧ xS.q z - iO = vg iB u v (Int.toNat j)) (∃ (z' : xS), (((iZ ≤ xS.q z' ∧ xS.q z' ≤ (2000000000 : Int) ∧ iZ ≤ xS.r z' ∧ xS.r z' < iB ∧ uh iB q11 q12 q13 (Int.toNat (xS.q z')) (xS.q z')
 (xS.r z') = vg iB u v (Int.toNat j)) ∧ Int.toNat (xS.q z') < Int.toNat (xS.q z)) ∧ zB q14 q14 ∧ zB q15 q15 ∧ (kI ∧ j = j) ∧ q16 ∧ (kI ∧ xS.q z - iO = xS.q z') ∧ kI ∧ xS.r z + gD v q9 zi.dflt = xS.r z') ∧ True)))))) (kI ∧ xS.q z = vg iB u v (Int.toNat j)))))))))))))))))) False)))))))))))))
 False))))))))))))))) := by
 delta bF dK xI kI lZ lN gD iZ iO iB aI
 dsimp only
 intro hb
 have e0 : (zi.dflt : Int) = 0 := rfl
 simp only [↓ZE, ↓ZR, row_one]
 simp only [sS, dS, e0]
 have hu1 : u.length ≤ 9223372036854775807 := hb.1.1
 have en : ((v.length : Int) - 1).toNat = v.length - 1 := by omega
 have en2 : ((v.length : Int) - 2).toNat = v.length - 2 := by omega
 have ej : (j + (v.length : Int)).toNat = j.toNat + v.length := by omega
 have ej1 : (j + (v.length : Int) - 1).toNat = j.toNat + v.length - 1 := by omega
 have ej2 : (j + (v.length : Int) - 2).toNat = j.toNat + v.length - 2 := by omega
 rw [en, en2, ej, ej1, ej2]
 have hF : vg 1000000000 u v j.toNat = uh 1000000000 (u.getD (j.toNat + v.length - 2) 0) (v.getD (v.length - 1) 0) (v.getD (v.length - 2) 0) ((u.getD (j.toNat + v.length) 0 * 1000000000 + u.getD (j.toNat + v.length - 1) 0).tdiv (v.getD (v.length - 1) 0)).toNat
  ((u.getD (j.toNat + v.length) 0 * 1000000000 + u.getD (j.toNat + v.length - 1) 0).tdiv (v.getD (v.length - 1) 0)) ((u.getD (j.toNat + v.length) 0 * 1000000000 + u.getD (j.toNat + v.length - 1) 0).tmod (v.getD (v.length - 1) 0)) := rfl
 rw [hF]
 have u0 := hu.get (by omega) (j.toNat + v.length)
 have u1 := hu.get (by omega) (j.toNat + v.length - 1)
 have u2 := hu.get (by omega) (j.toNat + v.length - 2)
 have w1 := hv.get (by omega) (v.length - 1)
 have w2 := hv.get (by omega) (v.length - 2)
 clear hF
 generalize u.getD (j.toNat + v.length) 0 = a0 at *
 generalize u.getD (j.toNat + v.length - 1) 0 = a1 at *
 generalize u.getD (j.toNat + v.length - 2) 0 = a2 at *
 generalize v.getD (v.length - 1) 0 = b1 at *
 generalize v.getD (v.length - 2) 0 = b2 at *
 obtain ⟨e, m0, m1, q0⟩ := kV (n := a0 * 1000000000 + a1) (b := b1) (by omega) h1
 have qle : (a0 * 1000000000 + a1).tdiv b1 ≤ 2000000000 := by
  refine Decidable.byContradiction fun hn => ?_
  have t1 : b1 * 2000000001 ≤ b1 * (a0 * 1000000000 + a1).tdiv b1 := Int.mul_le_mul_of_nonneg_left (by omega) (by omega)
  omega
 generalize (a0 * 1000000000 + a1).tdiv b1 = q at *
 generalize (a0 * 1000000000 + a1).tmod b1 = r at *
 obtain ⟨E, hE⟩ : ∃ E, uh 1000000000 a2 b1 b2 q.toNat q r = E := ⟨_, rfl⟩
 rw [hE]
 refine ⟨⟨by omega, by omega⟩, ⟨by omega, by omega⟩, ⟨by omega, by omega⟩, ⟨by omega, by omega⟩, ⟨by omega, by omega⟩, ⟨by omega, by omega⟩, ⟨by omega, by omega⟩, ⟨by omega, by omega⟩, ⟨by omega, by omega⟩, by omega, ⟨by omega, by omega⟩, ⟨by omega, by omega⟩, ⟨by omega, by omega⟩, by omega, ⟨⟨q, r⟩, ⟨q0, qle, m0, by simp only; omega, hE⟩, rfl, rfl⟩, fun ⟨Q, R⟩ ⟨z1, z2, z3, z4, z5⟩ => ?_⟩
 simp only at z1 z2 z3 z4 z5 ⊢
 have p0 : 0 ≤ Q * b2 := Int.mul_nonneg z1 w2.1
 have p1 : Q * b2 ≤ Q * 1000000000 := Int.mul_le_mul_of_nonneg_left (by omega) z1
 refine ⟨fun _ => ⟨by omega, by omega⟩, fun _ => ⟨by omega, by omega⟩, fun _ => ⟨by omega, by omega⟩, fun _ => ⟨by omega, by omega⟩, fun _ => ⟨by omega, by omega⟩, fun _ => ⟨by omega, by omega⟩, fun _ => ⟨by omega, by omega⟩, fun _ => ⟨by omega, by omega⟩, ?_⟩
 refine Wt (by cases leB 1000000000 Q <;> cases zH R 1000000000 <;> rfl) ?_
 refine zv.2 ⟨fun c => ?_, fun c => ?_⟩
 ·have hQ : 0 < Q := by
   rw [Bool.or_eq_true, ze, Bool.and_eq_true, zR, zR] at c
   rcases c with c | c
   ·omega
   ·refine Decidable.byContradiction fun hn => ?_
    have : Q = 0 := by omega
    rw [this, Int.zero_mul] at c
    omega
  obtain ⟨n, hn⟩ : ∃ n : Nat, Q.toNat = n + 1 := ⟨Q.toNat - 1, by omega⟩
  rw [hn] at z5 ⊢
  unfold uh at z5
  rw [c, cond_true] at z5
  have hn2 : (Q - 1).toNat = n := by omega
  refine ⟨⟨by omega, by omega⟩, ⟨by omega, by omega⟩, ⟨by omega, by omega⟩, ⟨by omega, by omega⟩, fun h => ?_, fun h => ⟨⟨Q - 1, R + b1⟩, ⟨⟨by simp only; omega, by simp only; omega, by simp only; omega, h, ?_⟩, by simp only; omega⟩, rfl, rfl⟩⟩
  ·rw [(ze _ _).2 h] at z5; exact z5
  ·rw [show leB 1000000000 (R + b1) = false from Bool.eq_false_iff.2 fun e => by have := (ze _ _).1 e; omega] at z5
   rw [← z5]
   simp only [hn2, cond_false]
 ·rw [← z5]
  cases hQ : Q.toNat with
  | zero => rfl
  | succ n => unfold uh; rw [c]; rfl
theorem Io (u : List Int) (v : List Int) (j : Int) (hu : z8 1000000000 u) (hv : z8 1000000000 v) (hn : 2 ≤ v.length) (hl : v.length ≤ 1000000000) (hj : 0 ≤ j ∧ j + v.length < u.length) (h1 : 0 < v.getD (v.length - 1) 0) (hc : u.getD (j.toNat + v.length) 0 ≤ v.getD (v.length - 1) 0) : zT Tryz.prog [] 192 [ZF u, ZF v, .i j] (.i (vg 1000000000 u v j.toNat)) :=
 zU (T := T0) (an := KC u v j) mixed zq (Eq.mp (by kernel_rfl) (KI u v j hu hv hn hl hj h1 hc))
theorem H0 : zQ Tryz.prog [] 192 pc := by
 intro xs ps r h hp
 unfold pc at h
 split at h
 ·skip
  rename_i x_u x_v j
  cases h
  obtain ⟨q0, q1, q2, q3, q4, q5, q6, q7, q8, -⟩ := Zo hp
  exact weaken (ys := [ZF (zW x_u), ZF (zW x_v), .i j]) ⟨za q0, za q1, zr _, trivial⟩ (Io (zW x_u) (zW x_v) j q2 q3 q4 q5 q6 q7 q8)
 ·cases h
noncomputable def Et : Tb := (T0.plus 161 VD).body Tryz.prog [(136, Ss)]
theorem Oa : zZ Tryz.prog Et := zZ.body mixed (zZ.plus zq Rn) _
def vS (x y : List Int) : List Int := zw 1000000000 (zX 1000000000 x * zX 1000000000 y).toNat
theorem LJ (x y : List Int) (hx : z8 1000000000 x) (hy : z8 1000000000 y) (hlx : x.length ≤ 1000000000) (hly : y.length ≤ 1000000000) :
 let q1 := ((lZ x) + (lZ y) + iO); let q2 := (xI y); let q3 := (nat_lit 0 = 0 ∧ 0 = 0 ∧ Int.toNat q1 = Int.toNat q1); let q4 := (xI x); let q5 := (kI ∧ (lZ x) = (lZ x)); let q9 := (kI ∧ (lZ y) + iO = (lZ y) + iO); let q13 := (zW q2); ZY [AV.xl false 1 (lN x)
 fun i j => aI (gD x i zi.dflt), xI y] → bF (dK ((lZ x) + (lZ y))) (bF (dK q1) (bF (DB.db (iZ ≤ (lZ x) + (lZ y) + iO ∧ (lZ x) + (lZ y) + iO ≤ (lZ x) + (lZ y) + iO ∧ (↑8 : Int) * q1 ≤ (140737488355328 : Int))) ((∃ (z : Zk), ((XK iB x y (Zk.i z) (Zk.out z) ∧
 Zk.i z ≤ lN x) ∧ zB q2 q2 ∧ q3 ∧ zB q4 q4 ∧ q5 ∧ kI ∧ iZ = (cI (Zk.i z))) ∧ (3 : TypeId) = 3 ∧ 1 = 1 ∧ lN (Zk.out z) = Int.toNat q1 ∧ ∀ (i j : Nat), i < Int.toNat q1 → j < 1 → zB (ZD (Value.int .i64 iZ) j) (aI (gD (Zk.out z) i iZ))) ∧ ∀ (z : Zk), let q6 := (Int.toNat (AV.int (aI (cI (Zk.i z))))); let q7 := (kI ∧ (cI (Zk.i z)) = (cI (Zk.i z))); let q8 := (kI ∧ gD x (Int.toNat (cI (Zk.i z))) zi.dflt = gD x (Int.toNat
 (cI (Zk.i z))) zi.dflt); let q16 := (Zj (OB.arr (3 : TypeId) 1 (lN (Zk.out z)) fun (i x : Nat) => aI (gD (Zk.out z) i iZ))); XK iB x y (Zk.i z) (Zk.out z) ∧ Zk.i z ≤ lN x → zY (zH (cI (Zk.i z)) (lZ x)) (bF (DB.db (iZ ≤ (cI (Zk.i z)) ∧ (cI (Zk.i z)) < (lZ x))) (bF (dK ((lZ y) + iO)) ((∃ (z_1 : ZO), ((MulK iB x y q6 (ZO.k z_1) (ZO.out z_1) (ZO.c z_1) ∧ ZO.k z_1 ≤ lN y + 1 ∧
 (ZO.k z_1 = lN y + 1 → ZO.c z_1 = iZ)) ∧ zB q2 q2 ∧ q3 ∧ q7 ∧ q8 ∧ zB q4 q4 ∧ q5 ∧ q7 ∧ q9 ∧ (kI ∧ iZ = ZO.c z_1) ∧ kI ∧ iZ = (cI (ZO.k z_1))) ∧ 3 = 3 ∧ 1 = 1 ∧ lN (ZO.out z_1) = lN (Zk.out z) ∧ ∀ (i j : Nat), i < lN (Zk.out z) → j < 1 → kI ∧ gD (Zk.out z) i iZ = gD (ZO.out z_1) i iZ) ∧ ∀ (z_1 : ZO), let q11 := ((cI (Zk.i z)) + (cI (ZO.k z_1))); let q10 := (dK q11); let q12 := (DB.db (iZ ≤ (cI (Zk.i z)) +
 (cI (ZO.k z_1)) ∧ (cI (Zk.i z)) + (cI (ZO.k z_1)) < (cI (Int.toNat q1)))); let q14 := (0 + Int.toNat q11); let q15 := (gD (ZO.out z_1) q14 iZ + gD x (Int.toNat (cI (Zk.i z))) zi.dflt * gD q13 (Int.toNat (cI (ZO.k z_1))) iZ + ZO.c z_1); MulK iB x y q6 (ZO.k z_1) (ZO.out z_1) (ZO.c z_1) ∧ ZO.k z_1 ≤ lN y + 1 ∧ (ZO.k z_1 = lN y + 1 → ZO.c z_1 = iZ) → zY (zH (cI (ZO.k z_1)) ((lZ y) + iO)) (bF q10 (bF q12 (bF (Zy Int q2) (iZ ≤
 (cI (ZO.k z_1)) ∧ bF (dK (gD x (Int.toNat (cI (Zk.i z))) zi.dflt * gD q13 (Int.toNat (cI (ZO.k z_1))) iZ)) (bF (dK (gD (ZO.out z_1) q14 iZ + gD x (Int.toNat (cI (Zk.i z))) zi.dflt * gD q13 (Int.toNat (cI (ZO.k z_1))) iZ)) (bF (dK q15) (bF q10 (bF (dK (Int.tdiv q15 iB)) (bF q12 (bF (dK ((cI (ZO.k z_1)) + iO)) (∃ (z' : ZO), (((MulK iB x y q6 (ZO.k z') (ZO.out z') (ZO.c
 z') ∧ ZO.k z' ≤ lN y + 1 ∧ (ZO.k z' = lN y + 1 → ZO.c z' = iZ)) ∧ lN y + 1 - ZO.k z' < lN y + 1 - ZO.k z_1) ∧ zB q2 q2 ∧ q3 ∧ q7 ∧ q8 ∧ zB q4 q4 ∧ q5 ∧ q7 ∧ q9 ∧ (kI ∧ Int.tdiv q15 iB = ZO.c z') ∧ kI ∧ (cI (ZO.k z_1)) + iO = (cI (ZO.k z'))) ∧ 3 = 3 ∧ 1 = 1 ∧ lN (ZO.out z') = lN (ZO.out z_1) ∧ ∀ (i j : Nat), i < lN (ZO.out z_1) → j < 1 → zB (if i = 0 + Int.toNat q11 ∧ 0 ≤ j ∧ j < 1 then aI (Int.tmod q15 iB) else AV.v
 (Value.int .i64 (gD (ZO.out z_1) i iZ))) (aI (gD (ZO.out z') i iZ))))))))))))) (bF (dK ((cI (Zk.i z)) + iO)) (∃ (z' : Zk), (((XK iB x y (Zk.i z') (Zk.out z') ∧ Zk.i z' ≤ lN x) ∧ lN x - Zk.i z' < lN x - Zk.i z) ∧ zB q2 q2 ∧ q3 ∧ zB q4 q4 ∧ q5 ∧ kI ∧ (cI (Zk.i z)) + iO = (cI (Zk.i z'))) ∧ 3 = 3 ∧ 1 = 1 ∧ lN (Zk.out z') = lN (ZO.out z_1) ∧ ∀ (i j : Nat), i
 < lN (ZO.out z_1) → j < 1 → kI ∧ gD (ZO.out z_1) i iZ = gD (Zk.out z') i iZ))))) ((∃ (z_1 : Nat), ((z_1 ≤ lN q16 ∧ ∀ (i : Nat), z_1 ≤ i → gD (Zj (OB.arr (3 : TypeId) 1 (lN (Zk.out z)) fun (i x : Nat) => aI (gD (Zk.out z) i iZ))) i iZ = iZ) ∧ nat_lit 0 = 0 ∧ 0 = 0 ∧ z_1 = Int.toNat q1) ∧ 3 = 3 ∧ 1 = 1 ∧ lN (Zk.out z) = lN (Zk.out z) ∧ ∀ (i j : Nat), i < lN (Zk.out z) → j < 1 → kI ∧ gD (Zk.out
 z) i iZ = gD (Zk.out z) i iZ) ∧ ∀ (z_1 : Nat), let q17 := (!zS true (zH iZ (cI z_1)) || zS true (zH iZ (cI z_1))); (z_1 ≤ lN q16 ∧ ∀ (i : Nat), z_1 ≤ i → gD (Zj (OB.arr (3 : TypeId) 1 (lN (Zk.out z)) fun (i x : Nat) => aI (gD (Zk.out z) i iZ))) i iZ = iZ) → bF q17 (bF q17 (bF (!zS true (zH iZ (cI z_1)) || dK ((cI z_1) - iO)) (bF q17 (bF q17 (bF (!zS true (zH iZ (cI z_1)) || DB.db (iZ ≤
 (cI z_1) - iO ∧ (cI z_1) - iO < (cI z_1))) (bF q17 (bF q17 (bF (!zH iZ (cI z_1) || zS true (zH iZ (cI z_1))) (zY (bif zH iZ (cI z_1) then gD (Zk.out z) (0 + Int.toNat ((cI z_1) - iO)) iZ == iZ else false) (bF (dK ((cI z_1) - iO)) (bF (DB.db (iZ ≤ (cI z_1) - iO ∧ (cI z_1) - iO ≤ (cI z_1))) (∃ (z' : Nat), (((z' ≤ lN q16 ∧ ∀ (i : Nat), z' ≤ i → gD (Zj (OB.arr (3 : TypeId) 1 (lN (Zk.out z))
 fun (i x : Nat) => aI (gD (Zk.out z) i iZ))) i iZ = iZ) ∧ z' < z_1) ∧ nat_lit 0 = 0 ∧ 0 = 0 ∧ z' = Int.toNat ((cI z_1) - iO)) ∧ 3 = 3 ∧ 1 = 1 ∧ lN (Zk.out z) = lN (Zk.out z) ∧ ∀ (i j : Nat), i < lN (Zk.out z) → j < 1 → kI ∧ gD (Zk.out z) i iZ = gD (Zk.out z) i iZ))) (3 = 3 ∧ 1 = 1 ∧ z_1 = lN (vS x y) ∧ ∀ (i j : Nat), i < lN (vS x y) → j < 1 → kI ∧ gD (Zk.out z) i iZ = gD (vS x y) i (0 :
 Int))))))))))))))) := by
 delta bF dK xI cI kI lZ lN gD iZ iO iB aI
 dsimp only
 intro hb
 have e0 : (zi.dflt : Int) = 0 := rfl
 simp only [↓ZE, ↓ZR, row_one]
 simp only [sS, dS, e0, eX, implies_true, and_true]
 have en : ((x.length : Int) + (y.length : Int) + 1).toNat = x.length + y.length + 1 := by omega
 rw [en]
 refine ⟨⟨by omega, by omega⟩, ⟨by omega, by omega⟩, ⟨by omega, Int.le_refl _, by omega⟩, ⟨⟨0, List.replicate (x.length + y.length + 1) 0⟩, ⟨⟨.zero_ (by omega) _ _, Nat.zero_le _⟩, rfl⟩, by simp, fun i j _ hj => w5 _ i j hj⟩, fun z ⟨z1, z2⟩ => ⟨fun hz => ⟨⟨by omega, hz⟩, ⟨by omega, by omega⟩, ⟨⟨0, 0, z.out⟩, ⟨⟨z1.start (by omega), Nat.zero_le _, fun h => rfl⟩, rfl, rfl⟩, rfl, fun _ _ _ _ => rfl⟩, fun w ⟨w1, w2, w3⟩ => ⟨fun hk0 => ?_, fun hk0 => ?_⟩⟩, fun hz => ?_⟩⟩
 ·have hz' : z.i < x.length := by omega
  have w4 := w1.len
  have hk : w.k ≤ y.length := by omega
  have ek : ((z.i : Int) + (w.k : Int)).toNat = z.i + w.k := by omega
  rw [ek]
  obtain ⟨⟨n0, n1⟩, hs⟩ := w1.step (by omega) hx hy hz' hk
  have g1 := hx.get (by omega) z.i
  have g2 := hy.get (by omega) w.k
  have g3 := w1.in_.get (by omega) (z.i + w.k)
  have c0 := w1.c0
  have c1 := w1.c1
  have p0 : 0 ≤ x.getD z.i 0 * y.getD w.k 0 := Int.mul_nonneg g1.1 g2.1
  have d0 := hs.c0
  have d1 := hs.c1
  refine ⟨⟨by omega, by omega⟩, ⟨by omega, by omega⟩, by omega, ⟨by omega, by omega⟩, ⟨by omega, by omega⟩, ⟨by omega, by omega⟩, ⟨by omega, by omega⟩, ⟨by omega, by omega⟩, ⟨by omega, by omega⟩, ⟨by omega, by omega⟩, ⟨w.k + 1, _, _⟩, ⟨⟨⟨hs, by simp only; omega, fun h => ?_⟩, by simp only; omega⟩, rfl, rfl⟩, by simp, fun i j _ => Up _ _ _ (by omega) i j⟩
  have hk' : w.k = y.length := by simp only at h; omega
  have := (hk' ▸ w1 : MulK 1000000000 x y z.i y.length w.out w.c).last (by omega)
  rw [← hk'] at this
  exact this
 ·have c0 := w1.c0
  have hc := w3 (by omega)
  exact ⟨⟨by omega, by omega⟩, ⟨z.i + 1, w.out⟩, ⟨⟨⟨w1.fin (by omega) w2 hc, by simp only; omega⟩, by simp only; omega⟩, rfl⟩, rfl, fun _ _ _ _ => rfl⟩
 ·have hz' : z.i = x.length := by omega
  have zl := z1.len
  have he := (hz' ▸ z1 : XK 1000000000 x y x.length z.out).end_ (b := 1000000000) (by omega)
  refine ⟨⟨x.length + y.length + 1, ⟨by omega, fun i hi => X1 (by omega)⟩, rfl⟩, fun k ⟨k1, k2⟩ => ⟨fun h => ?_, fun h => ?_, zv.2 ⟨fun c => ?_, fun c => ?_⟩⟩⟩
  ·have := (zR _ _).1 h; exact ⟨by omega, by omega⟩
  ·have := (zR _ _).1 h; exact ⟨by omega, by omega⟩
  ·obtain ⟨c1, c2⟩ := sk k2 c
   exact ⟨⟨by omega, by omega⟩, ⟨by omega, by omega⟩, k - 1, ⟨⟨by omega, c2⟩, by omega⟩, by omega⟩
  ·have ht := sr k1 k2 c
   have hp : z.out.take k = vS x y := ht.symm.trans he
   have hkl : k = (vS x y).length := by rw [← hp, List.length_take]; omega
   exact ⟨hkl, fun i j hi _ => by rw [← hp, YL (by omega)]⟩
theorem jH {x y : List Int} (hx : z8 1000000000 x) (hy : z8 1000000000 y) (hlx : x.length ≤ 1000000000) (hly : y.length ≤ 1000000000) : yX Tryz.prog [] 101 [ZF x, ZF y] 3 1 (vS x y).length (fun i _ => .i ((vS x y).getD i 0)) :=
 qv mixed Oa (Eq.mp (by kernel_rfl) (LJ x y hx hy hlx hly) : RO Tryz.prog Et 101 (Sp x y) [ZF x, ZF y] 3 1 (vS x y).length (fun i _ => .i ((vS x y).getD i 0)))
def rS : List AV → Option (List zn × TypeId × Nat × Nat × (Nat → Nat → AV))
 | [x, y] => some ([.b (Zy Int x), .b (Zy Int y), .p (z8 1000000000 (zW x)), .p (z8 1000000000 (zW y)), .p ((zW x).length ≤ 1000000000), .p ((zW y).length ≤ 1000000000)], 3, 1, (vS (zW x) (zW y)).length, fun i _ => .i ((vS (zW x) (zW y)).getD i 0))
 | _ => none
theorem KV : TG Tryz.prog [] 101 rS := by
 intro xs ps ty sz len els h hp
 unfold rS at h
 split at h
 ·rename_i x y
  cases h
  have q0 : Zy Int x = true := hp (.b (Zy Int x)) (by simp)
  have q1 : Zy Int y = true := hp (.b (Zy Int y)) (by simp)
  have q2 : z8 1000000000 (zW x) := hp (.p (z8 1000000000 (zW x))) (by simp)
  have q3 : z8 1000000000 (zW y) := hp (.p (z8 1000000000 (zW y))) (by simp)
  have q4 : (zW x).length ≤ 1000000000 := hp (.p ((zW x).length ≤ 1000000000)) (by simp)
  have q5 : (zW y).length ≤ 1000000000 := hp (.p ((zW y).length ≤ 1000000000)) (by simp)
  exact jJ (ys := [ZF (zW x), ZF (zW y)]) ⟨za q0, za q1, trivial⟩ (jH q2 q3 q4 q5)
 ·cases h
end Go.Te
