/- integer: write, result; strings.Repeat of the digit 0. -/
import Derived.Test.YthbpnknhfokadaaGreatDoorThI0
set_option linter.unusedSimpArgs false
set_option linter.unusedVariables false
namespace Go.Te
open Go Go.Sx Go.Proofs Go.Ar Go.Lib
set_option maxRecDepth 100000
set_option maxHeartbeats 4000000
def NJ : List AV → Option (List zN × AV)
 | [.str s, .v (.int .i64 k)] => some ([.b (s == [48]), .p (0 ≤ k ∧ k ≤ 14)], .str (List.replicate k.toNat 48))
 | _ => none
theorem Ij  :
 True := by
 trivial
theorem Jm  :
 True := by
 trivial
theorem iG  :
 True := by
 trivial
theorem Iv  :
 True := by
 trivial
theorem jG  :
 True := by
 trivial
theorem J8  :
 True := by
 trivial
theorem iR  :
 True := by
 trivial
theorem iQ  :
 True := by
 trivial
theorem Jk  :
 True := by
 trivial
theorem jf  :
 True := by
 trivial
theorem ky  :
 True := by
 trivial
theorem Lh  :
 True := by
 trivial
theorem kC  :
 True := by
 trivial
theorem K8  :
 True := by
 trivial
theorem Kp  :
 True := by
 trivial
theorem vo {k : Int} {n : Nat} (e : k = n) (h : pd Tryz.prog (T0.deep Tryz.prog 5) 116 .auto [.str [48], .i k] (gj (List.replicate n 48))) : zu Tryz.prog [] 116 [.str [48], .i k] (.str (List.replicate k.toNat 48)) := by
 subst e
 exact R2 mixed (zz.deep mixed zq 5) Ko h
theorem Hf : zP Tryz.prog [] 116 NJ := by
 intro xs ps r h hp
 unfold NJ at h
 split at h
 ·rename_i s k
  cases h
  have q : (s == [48]) = true := hp _ List.mem_cons_self
  have q1 : 0 ≤ k ∧ k ≤ 14 := hp _ (List.mem_cons_of_mem _ List.mem_cons_self)
  obtain rfl := eq_of_beq q
  obtain ⟨n, rfl⟩ : ∃ n : Nat, k = n := ⟨k.toNat, by omega⟩
  match n, q1 with
  | 0, _ => exact vo rfl (Eq.mp (by kernel_rfl) Ij)
  | 1, _ => exact vo rfl (Eq.mp (by kernel_rfl) Jm)
  | 2, _ => exact vo rfl (Eq.mp (by kernel_rfl) iG)
  | 3, _ => exact vo rfl (Eq.mp (by kernel_rfl) Iv)
  | 4, _ => exact vo rfl (Eq.mp (by kernel_rfl) jG)
  | 5, _ => exact vo rfl (Eq.mp (by kernel_rfl) J8)
  | 6, _ => exact vo rfl (Eq.mp (by kernel_rfl) iR)
  | 7, _ => exact vo rfl (Eq.mp (by kernel_rfl) iQ)
  | 8, _ => exact vo rfl (Eq.mp (by kernel_rfl) Jk)
  | 9, _ => exact vo rfl (Eq.mp (by kernel_rfl) jf)
  | 10, _ => exact vo rfl (Eq.mp (by kernel_rfl) ky)
  | 11, _ => exact vo rfl (Eq.mp (by kernel_rfl) Lh)
  | 12, _ => exact vo rfl (Eq.mp (by kernel_rfl) kC)
  | 13, _ => exact vo rfl (Eq.mp (by kernel_rfl) K8)
  | 14, _ => exact vo rfl (Eq.mp (by kernel_rfl) Kp)
  | n + 15, q1 => exact absurd q1.2 (by omega)
 ·cases h
def Tb.own1 (T : Tb) (f : FuncId) (t : Nat → (Nat → OB) → List AV → (Nat → (Nat → OB) → AV → Prop) → Prop) : Tb := { T with own := fun g => bif Nat.beq g f then some t else T.own g }
theorem zz.own1 {P : Program} {T : Tb} (hT : zz P T) {f : FuncId} {t : Nat → (Nat → OB) → List AV → (Nat → (Nat → OB) → AV → Prop) → Prop} (ht : uT P T.objs f t) : zz P (Tb.own1 T f t) := by
 refine ⟨fun g t' h => ?_, hT.pu, hT.fre⟩
 simp only [Tb.own1] at h
 cases hx : Nat.beq g f with
 | false => rw [hx] at h; exact hT.own _ _ h
 | true =>
  rw [hx] at h
  obtain rfl := Nat.eq_of_beq_eq_true hx
  cases h
  exact ht
noncomputable def GO (G : List (Nat × Obj)) : Tb := (Tb.own1 (Tb.own1 (KR G) 189 gR) 160 kV).body Tryz.prog [(185, .auto), (158, .auto), (159, .auto), (177, .auto)]
theorem Oy {G : List (Nat × Obj)} (hG : zO G) : zz Tryz.prog (GO G) := zz.body mixed (zz.own1 (zz.own1 (YF hG) (ik G)) (KW G)) _
noncomputable def Gd (G : List (Nat × Obj)) : Tb := (GO G).plus 116 NJ
theorem oQ {G : List (Nat × Obj)} (hG : zO G) : zz Tryz.prog (Gd G) := zz.plus (Oy hG) (zP.mono Hf)
def zg (x : Big) (z : Nat) : zj := (bif x.neg then [45] else []) ++ Lib.decDigits (wi 1000000000 x.l z)
def HQ (σ : zJ) : Nat :=
 match σ.bl 1 with
 | .box _ _ cs => Ym (cs 1)
 | _ => 0
def JK (x : Big) : yQ :=
 .two .auto (.one (.two .auto (.unroll (x.l.length + 1) (.loop Nat (fun σ z => [(0, σ.tm 0), (1, σ.tm 1), (3, .i ((z : Int) - 1))])
  (fun σ z => [(1, .box 210 2 (zw [.np 1 0, .ns σ.nb 0 (zg x z).length])), (HQ σ, .dead), (σ.nb, gC (zg x z))]) 1 (fun _ z => z < x.l.length) (fun _ z => z) .auto))))
def jK (x : Big) : yQ :=
 .two .auto (.two .auto (.two .auto (.two .auto (.two (.two .auto (.one (.range (JK x) .auto .auto))) .auto))))
theorem sQ (a b : zj) (i : Nat) : (a ++ b).getD i 0 = if i < a.length then a.getD i 0 else b.getD (i - a.length) 0 := by
 by_cases h : i < a.length
 ·rw [if_pos h, List.getD_eq_getElem?_getD, List.getElem?_append_left h, ← List.getD_eq_getElem?_getD]
 ·rw [if_neg h, List.getD_eq_getElem?_getD, List.getElem?_append_right (by omega), ← List.getD_eq_getElem?_getD]
theorem gO (a b : zj) (i : Nat) : zd (if i < a.length then AV.v (Value.int IntKind.u8 ((a.getD i 0).toNat : Int)) else AV.v (Value.int IntKind.u8 ((b.getD (i - a.length) 0).toNat : Int))) (AV.v (Value.int IntKind.u8 (((a ++ b).getD i 0).toNat : Int))) := by
 rw [sQ]
 split <;> exact zV _
theorem gM (a b c : zj) (i : Nat) : zd (if i < a.length + b.length then (if i < a.length then AV.v (Value.int IntKind.u8 ((a.getD i 0).toNat : Int)) else AV.v (Value.int IntKind.u8 ((b.getD (i - a.length) 0).toNat : Int))) else AV.v (Value.int IntKind.u8 ((c.getD (i - (a.length + b.length)) 0).toNat : Int))) (AV.v (Value.int IntKind.u8 (((a ++ b ++ c).getD i 0).toNat : Int))) := by
 rw [sQ (a ++ b) c, List.length_append]
 split
 ·exact gO a b i
 ·exact zV _
theorem gF (c : UInt8) (b : zj) (i : Nat) : zd (if i < 1 then AV.v (Value.int IntKind.u8 (c.toNat : Int)) else AV.v (Value.int IntKind.u8 ((b.getD (i - 1) 0).toNat : Int))) (AV.v (Value.int IntKind.u8 (((c :: b).getD i 0).toNat : Int))) := by
 match i with
 | 0 => exact zV _
 | i + 1 => rw [if_neg (by omega)]; exact zV _
theorem Wi {n : Int} (h0 : 0 ≤ n) (h1 : n < 1000000000) : 1 ≤ (itoa n).length ∧ (itoa n).length ≤ 9 ∧ itoa n = decDigits n.toNat := by
 obtain ⟨m, rfl⟩ : ∃ m : Nat, n = m := ⟨n.toNat, by omega⟩
 have e : itoa (m : Int) = decDigits m := Go.Ar.yY m
 rw [Int.toNat_natCast, e]
 refine ⟨yi m, ?_, rfl⟩
 rw [Lib.decDigits_length]
 exact (Zw (by omega)).2 (by omega)
theorem Mk {x : Big} (hx : Zp 1000000000 x.l) (h : 0 < x.l.length) : zg x (x.l.length - 1) = (bif x.neg then [45] else []) ++ itoa (x.l.getD (x.l.length - 1) 0) := by
 have g := hx.get (by omega) (x.l.length - 1)
 rw [(Wi g.1 g.2).2.2]
 unfold zg
 rw [og h]
theorem NQ {l : List Int} (hx : Zp 1000000000 l) (ht : zh l = l) {z : Nat} (hz : z < l.length) : wi 1000000000 l z ≠ 0 := by
 have e : l = zT 1000000000 (zU 1000000000 l).toNat := X3 (b := 1000000000) (by omega) hx ht
 have hn : (zU 1000000000 l).toNat ≠ 0 := fun e0 => by
  rw [e0, Z2] at e
  rw [e] at hz
  exact absurd hz (Nat.not_lt_zero _)
 rw [e] at hz ⊢
 exact NI (b := 1000000000) (by omega) hn hz
theorem kw {x : Big} (hx : Zp 1000000000 x.l) (ht : zh x.l = x.l) {z : Nat} (h0 : 0 < z) (h : z < x.l.length) :
  zg x (z - 1) = zg x z ++ List.replicate (9 - ((itoa (x.l.getD (z - 1) 0)).length : Int)).toNat 48 ++ itoa (x.l.getD (z - 1) 0) := by
 have g := hx.get (by omega) (z - 1)
 obtain ⟨g1, g2, g3⟩ := Wi g.1 g.2
 have hs := oM (k := 9) (l := x.l) (by omega) hx (i := z - 1) (by omega) (by rw [show z - 1 + 1 = z by omega]; exact NQ hx ht h)
 rw [show z - 1 + 1 = z by omega] at hs
 unfold zg
 rw [show decDigits (wi 1000000000 x.l (z - 1)) = decDigits (wi 1000000000 x.l z) ++ UM 9 (x.l.getD (z - 1) 0).toNat from hs]
 unfold UM
 rw [← g3, show (9 - ((itoa (x.l.getD (z - 1) 0)).length : Int)).toNat = 9 - (itoa (x.l.getD (z - 1) 0)).length by omega]
 simp only [List.append_assoc]
theorem iV {x : Big} (hx : Zp 1000000000 x.l) (z : Nat) : (zg x z).length ≤ 9 * x.l.length + 2 := by
 unfold zg
 rw [List.length_append]
 have h1 : (bif x.neg then [(45 : UInt8)] else []).length ≤ 1 := by cases x.neg <;> simp
 have h2 : (decDigits (wi 1000000000 x.l z)).length ≤ 9 * x.l.length + 1 := by
  rw [Lib.decDigits_length]
  refine (Zw (by omega)).2 ?_
  have h3 := Yi (b := 1000000000) (by omega) (hx.drop z)
  have h4 := zf (b := 1000000000) (by omega) (hx.drop z)
  unfold wi
  have h5 : (1000000000 : Nat) ^ (x.l.drop z).length ≤ 1000000000 ^ x.l.length := Nat.pow_le_pow_right (by omega) (by simp)
  have h6 : (1000000000 : Nat) ^ x.l.length = 10 ^ (9 * x.l.length) := by rw [Nat.pow_mul]
  have h7 : 10 ^ (9 * x.l.length) ≤ 10 ^ (9 * x.l.length + 1) := Nat.pow_le_pow_right (by omega) (by omega)
  have h8 : (zU 1000000000 (x.l.drop z)).toNat < 1000000000 ^ (x.l.drop z).length := by
   have : ((zU 1000000000 (x.l.drop z)).toNat : Int) < ((1000000000 ^ (x.l.drop z).length : Nat) : Int) := by rw [Int.toNat_of_nonneg h4, Int.natCast_pow]; exact h3
   omega
  exact Nat.lt_of_lt_of_le h8 (by omega)
 omega
theorem JE {x : Big} (hx : Zp 1000000000 x.l) (ht : zh x.l = x.l) (h : 0 < x.l.length) : zg x 0 = itoa (bif x.neg then - zU 1000000000 x.l else zU 1000000000 x.l) ∧ 0 < (zg x 0).length := by
 have hz := NQ hx ht h
 have e : wi 1000000000 x.l 0 = (zU 1000000000 x.l).toNat := by unfold wi; rw [List.drop_zero]; rfl
 rw [e] at hz
 unfold zg
 rw [e]
 obtain ⟨n, hn⟩ : ∃ n : Nat, zU 1000000000 x.l = n := ⟨(zU 1000000000 x.l).toNat, by omega⟩
 rw [hn] at hz ⊢
 rw [Int.toNat_natCast] at hz ⊢
 refine ⟨?_, by have := yi n; simp; omega⟩
 cases x.neg with
 | true => exact (Go.Ar.itoa_neg (by omega)).symm
 | false => exact (Go.Ar.yY n).symm
def tY : List AV → Option (List zN × AV)
 | [x_x] => some ([.b (yp Big x_x), .p (Zp 1000000000 (yR (α := Big) x_x).l), .p (zh (yR (α := Big) x_x).l = (yR (α := Big) x_x).l), .p ((yR (α := Big) x_x).l.length ≤ 100000000)], .str (itoa (bif (yR (α := Big) x_x).neg then - zU 1000000000 (yR (α := Big) x_x).l else zU 1000000000 (yR (α := Big) x_x).l)))
 | _ => none
theorem OY (G : List (Nat × Obj)) (x : Big) (hx : Zp 1000000000 x.l) (ht : zh x.l = x.l) (hl : x.l.length ≤ 100000000) :
 let q1 := (bif Big.neg x then -zU iB (Big.l x) else zU iB (Big.l x)); let q3 := ((lZ (Big.l x)) - iO); let q2 := (dK q3); let q4 := (leB iZ q3); let q5 := (DB.db (iZ ≤ (lZ (Big.l x)) - iO ∧ (lZ (Big.l x)) - iO < (lZ (Big.l x)))); let q7 := (Int.toNat q3); let q6 := (iN ≤ gD (Big.l x) q7 zR.dflt ∧ gD (Big.l x) q7 zR.dflt ≤ iX); let q8 := (zG q3 q3); let q12 := (itoa
 (gD (Big.l x) q7 zR.dflt)); let q11 := (lZ q12); let q10 := ((9 : Int) - q11); let q9 := (dK q10); let q13 := (iZ ≤ (9 : Int) - q11 ∧ (9 : Int) - q11 ≤ (14 : Int)); let q15 := (List.replicate (Int.toNat q10) (48 : UInt8)); let q14 := (1 + lN q15); let q16 := (dK ((lZ (Big.l x)) - iO - iO)); let q18 := (xI (Big.l x)); let q17 := (143 = 143 ∧ 2 = 2 ∧ Big.neg x = Big.neg x ∧ zd q18 q18); Zy [AV.agg 2
 (zR.enc x)] → zZ ((lZ (Big.l x)) == iZ) (bA #[(48 : UInt8)] = itoa q1) (zZ (Big.neg x) (bF q2 (zZ q4 (bF q5 (q6 ∧ bF q2 (zZ q8 (bF q9 (q13 ∧ bF (DB.db (q14 * 1 ≤ 140737488355328)) (bF (DB.db ((1 + lN q15 + lN q12) * 1 ≤ 140737488355328)) (bF q16 ((∃ (z : Nat), ((z < lN (Big.l x) ∧ z < lN (Big.l x) + 1) ∧ nat_lit 4 = 4 ∧ (nat_lit 3 = 3 ∧ 0 = 0) ∧ kI ∧ (lZ (Big.l x)) - iO - iO = (cI z) - iO) ∧
 ((((((q17 ∧ 210 = 210 ∧ 2 = 2 ∧ (1 = 1 ∧ 0 = 0) ∧ nat_lit 7 = 7 ∧ 0 = 0 ∧ lN (zg x z) = 1 + lN q15 + lN q12) ∧ True) ∧ 141 = 141 ∧ 1 = 1 ∧ zd q18 q18) ∧ lR) ∧ True) ∧ True) ∧ (5 : TypeId) = 5 ∧ 1 = 1 ∧ lN (zg x z) = 1 + lN q15 + lN q12 ∧ ∀ (i j : Nat), i < 1 + lN q15 + lN q12 → j < 1 → zd (if i < 1 + lN q15 then if i < 1 then Sx.rowAt [fun (x : Nat) => AV.v (Value.int IntKind.u8 (45 : Int))] i j else a8 (gD q15
 (i - 1) (0 : UInt8)) else a8 (gD q12 (i - q14) (0 : UInt8))) (a8 (gD (zg x z) i (0 : UInt8)))) ∧ ∀ (z : Nat), let q21 := (itoa (gD (Big.l x) (Int.toNat ((cI z) - iO)) zR.dflt)); let q20 := (lZ q21); let q19 := ((9 : Int) - q20); let q23 := (List.replicate (Int.toNat q19) (48 : UInt8)); let q22 := (lN (zg x z) + lN q23); let q24 := (dK ((cI z) - iO - iO)); z < lN (Big.l x) →
 zZ (leB iZ ((cI z) - iO)) (bF (DB.db (iZ ≤ (cI z) - iO ∧ (cI z) - iO < (lZ (Big.l x)))) ((iN ≤ gD (Big.l x) (Int.toNat ((cI z) - iO)) zR.dflt ∧ gD (Big.l x) (Int.toNat ((cI z) - iO)) zR.dflt ≤ iX) ∧ bF q2 (zZ (zG ((cI z) - iO) q3) (bF (dK q19) ((iZ ≤ (9 : Int) - q20 ∧ (9 : Int) - q20 ≤ (14 : Int)) ∧ bF (DB.db (q22 * 1 ≤ 140737488355328)) (bF (DB.db ((lN (zg x z) +
 lN q23 + lN q21) * 1 ≤ 140737488355328)) (bF q24 (∃ (z' : Nat), ((z' < lN (Big.l x) ∧ z' < z) ∧ nat_lit 4 = 4 ∧ (nat_lit 3 = 3 ∧ 0 = 0) ∧ kI ∧ (cI z) - iO - iO = (cI z') - iO) ∧ ((((((q17 ∧ 210 = 210 ∧ 2 = 2 ∧ (1 = 1 ∧ 0 = 0) ∧ nat_lit 7 = 7 ∧ 0 = 0 ∧ lN (zg x z') = lN (zg x z) + lN q23 + lN q21) ∧ True) ∧ 141 = 141 ∧ 1 = 1 ∧ zd q18 q18) ∧ lR) ∧ True) ∧ True) ∧ (5 : TypeId) = 5 ∧ 1 = 1 ∧ lN (zg x z') = List.length
 (zg x z) + lN q23 + lN q21 ∧ ∀ (i j : Nat), i < lN (zg x z) + lN q23 + lN q21 → j < 1 → zd (if i < lN (zg x z) + lN q23 then if i < lN (zg x z) then a8 (gD (zg x z) i (0 : UInt8)) else a8 (gD q23 (i - lN (zg x z)) (0 : UInt8)) else a8 (gD q21 (i - q22) (0 : UInt8))) (a8 (gD (zg x z') i (0 :
 UInt8)))))))) (bF (DB.db ((lN (zg x z) + lN q21) * 1 ≤ 140737488355328)) (bF q24 (∃ (z' : Nat), ((z' < lN (Big.l x) ∧ z' < z) ∧ nat_lit 4 = 4 ∧ (nat_lit 3 = 3 ∧ 0 = 0) ∧ kI ∧ (cI z) - iO - iO = (cI z') - iO) ∧ ((((((q17 ∧ 210 = 210 ∧ 2 = 2 ∧ (1 = 1 ∧ 0 = 0) ∧ nat_lit 7 = 7 ∧ 0 = 0 ∧ lN (zg x z') = lN (zg x z) + lN q21) ∧ True) ∧ 141 = 141 ∧ 1 = 1 ∧ zd q18 q18) ∧ lR) ∧ True) ∧ True) ∧ (5 : TypeId) =
 5 ∧ 1 = 1 ∧ lN (zg x z') = lN (zg x z) + lN q21 ∧ ∀ (i j : Nat), i < lN (zg x z) + lN q21 → j < 1 → zd (if i < lN (zg x z) then a8 (gD (zg x z) i (0 : UInt8)) else a8 (gD q21 (i - lN (zg x z)) (0 : UInt8))) (a8 (gD (zg x z') i (0 : UInt8))))))))) (0 < lN (zg x z) ∧ ∃ (l : List UInt8), lN l = lN (zg x
 z) ∧ (∀ (i : Nat), i < lN (zg x z) → a8 (gD (zg x z) i (0 : UInt8)) = a8 (gD l i (0 : UInt8))) ∧ l = itoa q1)))))) (zZ (DB.db ((1 + lN q12) * 1 ≤ 140737488355328)) (bF q16 ((∃ (z : Nat), ((z < lN (Big.l x) ∧ z < lN (Big.l x) + 1) ∧ nat_lit 4 = 4 ∧ (nat_lit 3 = 3 ∧ 0 = 0) ∧ kI ∧ (lZ (Big.l x)) - iO - iO = (cI z) - iO) ∧ (((((q17 ∧ 210 = 210 ∧ 2 = 2 ∧ (1 = 1 ∧
 0 = 0) ∧ nat_lit 6 = 6 ∧ 0 = 0 ∧ lN (zg x z) = 1 + lN q12) ∧ True) ∧ 141 = 141 ∧ 1 = 1 ∧ zd q18 q18) ∧ lR) ∧ True) ∧ (5 : TypeId) = 5 ∧ 1 = 1 ∧ lN (zg x z) = 1 + lN q12 ∧ ∀ (i j : Nat), i < 1 + lN q12 → j < 1 → zd (if i < 1 then Sx.rowAt [fun (x : Nat) => AV.v (Value.int IntKind.u8 (45 : Int))] i j else a8 (gD q12 (i - 1) (0 : UInt8))) (a8 (gD (zg x z) i (0 : UInt8)))) ∧ ∀ (z :
 Nat), let q27 := (itoa (gD (Big.l x) (Int.toNat ((cI z) - iO)) zR.dflt)); let q26 := (lZ q27); let q25 := ((9 : Int) - q26); let q29 := (List.replicate (Int.toNat q25) (48 : UInt8)); let q28 := (lN (zg x z) + lN q29); let q30 := (dK ((cI z) - iO - iO)); z < lN (Big.l x) → zZ (leB iZ ((cI z) - iO)) (bF (DB.db (iZ ≤ (cI z) - iO ∧ (cI z) - iO < (lZ (Big.l x)))) ((iN ≤ gD (Big.l x) (Int.toNat ((↑z
 : Int) - iO)) zR.dflt ∧ gD (Big.l x) (Int.toNat ((cI z) - iO)) zR.dflt ≤ iX) ∧ bF q2 (zZ (zG ((cI z) - iO) q3) (bF (dK q25) ((iZ ≤ (9 : Int) - q26 ∧ (9 : Int) - q26 ≤ (14 : Int)) ∧ bF (DB.db (q28 * 1 ≤ 140737488355328)) (bF (DB.db ((lN (zg x z) + lN q29 + lN q27) * 1 ≤ 140737488355328)) (bF q30 (∃ (z' : Nat), ((z' < lN (Big.l x) ∧ z' < z) ∧ nat_lit 4 = 4 ∧ (nat_lit 3 = 3 ∧ 0 = 0) ∧ kI ∧ (cI z) - iO - iO = (cI z')
 - iO) ∧ (((((q17 ∧ 210 = 210 ∧ 2 = 2 ∧ (1 = 1 ∧ 0 = 0) ∧ nat_lit 6 = 6 ∧ 0 = 0 ∧ lN (zg x z') = lN (zg x z) + lN q29 + lN q27) ∧ True) ∧ 141 = 141 ∧ 1 = 1 ∧ zd q18 q18) ∧ lR) ∧ True) ∧ (5 : TypeId) = 5 ∧ 1 = 1 ∧ lN (zg x z') = lN (zg x z) + lN q29 + lN q27 ∧ ∀ (i j : Nat), i < lN (zg x z) + lN q29 + lN q27 → j < 1 → zd (if i < lN (zg x z) + lN q29 then if i < lN (zg x z) then AV.v (Value.int
 IntKind.u8 (cI (UInt8.toNat (gD (zg x z) i (0 : UInt8))))) else a8 (gD q29 (i - lN (zg x z)) (0 : UInt8)) else a8 (gD q27 (i - q28) (0 : UInt8))) (a8 (gD (zg x z') i (0 : UInt8)))))))) (bF (DB.db ((lN (zg x z) + lN q27) * 1 ≤ 140737488355328)) (bF q30 (∃ (z' : Nat), ((z' < lN (Big.l x) ∧ z' < z) ∧ nat_lit 4 = 4 ∧ (nat_lit 3 = 3 ∧ 0 = 0) ∧
 kI ∧ (cI z) - iO - iO = (cI z') - iO) ∧ (((((q17 ∧ 210 = 210 ∧ 2 = 2 ∧ (1 = 1 ∧ 0 = 0) ∧ nat_lit 6 = 6 ∧ 0 = 0 ∧ lN (zg x z') = lN (zg x z) + lN q27) ∧ True) ∧ 141 = 141 ∧ 1 = 1 ∧ zd q18 q18) ∧ lR) ∧ True) ∧ (5 : TypeId) = 5 ∧ 1 = 1 ∧ lN (zg x z') = lN (zg x z) + lN q27 ∧ ∀ (i j : Nat), i < lN (zg x z) + lN q27 → j < 1 → zd (if i < lN (zg x z) then a8 (List.getD
 (zg x z) i (0 : UInt8)) else a8 (gD q27 (i - lN (zg x z)) (0 : UInt8))) (a8 (gD (zg x z') i (0 : UInt8))))))))) (0 < lN (zg x z) ∧ ∃ (l : List UInt8), lN l = lN (zg x z) ∧ (∀ (i : Nat), i < lN (zg x z) → a8 (gD (zg x z) i (0 : UInt8)) = a8 (gD l i (0 : UInt8))) ∧ l = itoa q1)))
 False)))) (0 < 1 ∧ ∃ (l : List UInt8), lN l = 1 ∧ (∀ (i : Nat), i < 1 → Sx.rowAt [fun (x : Nat) => AV.v (Value.int IntKind.u8 (45 : Int))] i 0 = a8 (gD l i (0 : UInt8))) ∧ l = itoa q1))) (bF q2 (zZ q4 (bF q5 (q6 ∧ bF q2 (zZ q8 (bF q9 (q13 ∧ bF (DB.db (lN q15 * 1 ≤ 140737488355328)) (bF (DB.db ((lN q15 + lN q12) * 1 ≤ 140737488355328)) (bF q16 ((∃ (z : Nat), ((z < lN (Big.l x) ∧ z < lN (Big.l x) + 1) ∧ nat_lit 3 = 3 ∧ (nat_lit 2 = 2 ∧
 0 = 0) ∧ kI ∧ (lZ (Big.l x)) - iO - iO = (cI z) - iO) ∧ (((((q17 ∧ 210 = 210 ∧ 2 = 2 ∧ (1 = 1 ∧ 0 = 0) ∧ nat_lit 6 = 6 ∧ 0 = 0 ∧ lN (zg x z) = lN q15 + lN q12) ∧ 141 = 141 ∧ 1 = 1 ∧ zd q18 q18) ∧ lR) ∧ True) ∧ True) ∧ (5 : TypeId) = 5 ∧ 1 = 1 ∧ lN (zg x z) = lN q15 + lN q12 ∧ ∀ (i j : Nat), i < lN q15 + lN q12 → j < 1 → zd (if i < lN q15 then a8 (gD q15
 i (0 : UInt8)) else a8 (gD q12 (i - lN q15) (0 : UInt8))) (a8 (gD (zg x z) i (0 : UInt8)))) ∧ ∀ (z : Nat), let q33 := (itoa (gD (Big.l x) (Int.toNat ((cI z) - iO)) zR.dflt)); let q32 := (lZ q33); let q31 := ((9 : Int) - q32); let q35 := (List.replicate (Int.toNat q31) (48 : UInt8)); let q34 := (lN (zg x z) + lN q35); let q36 := (dK ((cI z) - iO - iO)); z < lN (Big.l x) →
 zZ (leB iZ ((cI z) - iO)) (bF (DB.db (iZ ≤ (cI z) - iO ∧ (cI z) - iO < (lZ (Big.l x)))) ((iN ≤ gD (Big.l x) (Int.toNat ((cI z) - iO)) zR.dflt ∧ gD (Big.l x) (Int.toNat ((cI z) - iO)) zR.dflt ≤ iX) ∧ bF q2 (zZ (zG ((cI z) - iO) q3) (bF (dK q31) ((iZ ≤ (9 : Int) - q32 ∧ (9 : Int) - q32 ≤ (14 : Int)) ∧ bF (DB.db (q34 * 1 ≤ 140737488355328)) (bF (DB.db ((lN (zg x z) +
 lN q35 + lN q33) * 1 ≤ 140737488355328)) (bF q36 (∃ (z' : Nat), ((z' < lN (Big.l x) ∧ z' < z) ∧ nat_lit 3 = 3 ∧ (nat_lit 2 = 2 ∧ 0 = 0) ∧ kI ∧ (cI z) - iO - iO = (cI z') - iO) ∧ (((((q17 ∧ 210 = 210 ∧ 2 = 2 ∧ (1 = 1 ∧ 0 = 0) ∧ nat_lit 6 = 6 ∧ 0 = 0 ∧ lN (zg x z') = lN (zg x z) + lN q35 + lN q33) ∧ 141 = 141 ∧ 1 = 1 ∧ zd q18 q18) ∧ lR) ∧ True) ∧ True) ∧ (5 : TypeId) = 5 ∧ 1 = 1 ∧ lN (zg x z') = lN (zg x z)
 + lN q35 + lN q33 ∧ ∀ (i j : Nat), i < lN (zg x z) + lN q35 + lN q33 → j < 1 → zd (if i < lN (zg x z) + lN q35 then if i < lN (zg x z) then a8 (gD (zg x z) i (0 : UInt8)) else a8 (gD q35 (i - lN (zg x z)) (0 : UInt8)) else a8 (gD q33 (i - q34) (0 : UInt8))) (AV.v (Value.int IntKind.u8 (↑(UInt8.toNat (gD (zg x z') i (0 : UInt8))) :
 Int)))))))) (bF (DB.db ((lN (zg x z) + lN q33) * 1 ≤ 140737488355328)) (bF q36 (∃ (z' : Nat), ((z' < lN (Big.l x) ∧ z' < z) ∧ nat_lit 3 = 3 ∧ (nat_lit 2 = 2 ∧ 0 = 0) ∧ kI ∧ (cI z) - iO - iO = (cI z') - iO) ∧ (((((q17 ∧ 210 = 210 ∧ 2 = 2 ∧ (1 = 1 ∧ 0 = 0) ∧ nat_lit 6 = 6 ∧ 0 = 0 ∧ lN (zg x z') = lN (zg x z) + lN q33) ∧ 141 = 141 ∧ 1 = 1 ∧ zd q18 q18) ∧ lR) ∧ True) ∧ True) ∧ (5 : TypeId) = 5 ∧ 1 = 1 ∧
 lN (zg x z') = lN (zg x z) + lN q33 ∧ ∀ (i j : Nat), i < lN (zg x z) + lN q33 → j < 1 → zd (if i < lN (zg x z) then a8 (gD (zg x z) i (0 : UInt8)) else a8 (gD q33 (i - lN (zg x z)) (0 : UInt8))) (a8 (gD (zg x z') i (0 : UInt8))))))))) (0 < lN (zg x z) ∧ ∃ (l : List UInt8), lN l = lN (zg x z) ∧ (∀ (i :
 Nat), i < lN (zg x z) → a8 (gD (zg x z) i (0 : UInt8)) = a8 (gD l i (0 : UInt8))) ∧ l = itoa q1)))))) (bF (DB.db (lN q12 * 1 ≤ 140737488355328)) (bF q16 ((∃ (z : Nat), ((z < lN (Big.l x) ∧ z < lN (Big.l x) + 1) ∧ nat_lit 3 = 3 ∧ (nat_lit 2 = 2 ∧ 0 = 0) ∧ kI ∧ (lZ (Big.l x)) - iO - iO = (cI z) - iO) ∧ ((((q17 ∧ 210 = 210 ∧ 2 = 2 ∧ (1 = 1 ∧ 0 = 0) ∧ nat_lit 5
 = 5 ∧ 0 = 0 ∧ lN (zg x z) = lN q12) ∧ 141 = 141 ∧ 1 = 1 ∧ zd q18 q18) ∧ lR) ∧ True) ∧ (5 : TypeId) = 5 ∧ 1 = 1 ∧ lN (zg x z) = lN q12 ∧ ∀ (i j : Nat), i < lN q12 → j < 1 → IntKind.u8 = IntKind.u8 ∧ (cI (UInt8.toNat (gD q12 i (0 : UInt8)))) = (cI (UInt8.toNat (gD (zg x z) i (0 : UInt8))))) ∧ ∀ (z : Nat), let q39 := (itoa (gD (Big.l x) (Int.toNat ((cI z) - iO)) zR.dflt)); let q38 := (lZ q39); let q37 := ((9 : Int) - q38); let q41 :=
 (List.replicate (Int.toNat q37) (48 : UInt8)); let q40 := (lN (zg x z) + lN q41); let q42 := (dK ((cI z) - iO - iO)); z < lN (Big.l x) → zZ (leB iZ ((cI z) - iO)) (bF (DB.db (iZ ≤ (cI z) - iO ∧ (cI z) - iO < (lZ (Big.l x)))) ((iN ≤ gD (Big.l x) (Int.toNat ((cI z) - iO)) zR.dflt ∧ gD (Big.l x) (Int.toNat ((cI z) - iO)) zR.dflt ≤ iX) ∧ bF q2 (zZ (zG ((cI z) - (1 :
 Int)) q3) (bF (dK q37) ((iZ ≤ (9 : Int) - q38 ∧ (9 : Int) - q38 ≤ (14 : Int)) ∧ bF (DB.db (q40 * 1 ≤ 140737488355328)) (bF (DB.db ((lN (zg x z) + lN q41 + lN q39) * 1 ≤ 140737488355328)) (bF q42 (∃ (z' : Nat), ((z' < lN (Big.l x) ∧ z' < z) ∧ nat_lit 3 = 3 ∧ (nat_lit 2 = 2 ∧ 0 = 0) ∧ kI ∧ (cI z) - iO - iO = (cI z') - iO) ∧ ((((q17 ∧ 210 = 210 ∧ 2 = 2 ∧ (1 = 1 ∧ 0 = 0) ∧ nat_lit 5 = 5 ∧ 0 = 0 ∧ lN (zg x z') = lN (zg x z) + lN q41 + lN q39)
 ∧ 141 = 141 ∧ 1 = 1 ∧ zd q18 q18) ∧ lR) ∧ True) ∧ (5 : TypeId) = 5 ∧ 1 = 1 ∧ lN (zg x z') = lN (zg x z) + lN q41 + lN q39 ∧ ∀ (i j : Nat), i < lN (zg x z) + lN q41 + lN q39 → j < 1 → zd (if i < lN (zg x z) + lN q41 then if i < lN (zg x z) then a8 (gD (zg x z) i (0 : UInt8)) else a8 (gD q41 (i - lN (zg x z)) (0 : UInt8))
 else a8 (gD q39 (i - q40) (0 : UInt8))) (a8 (gD (zg x z') i (0 : UInt8)))))))) (bF (DB.db ((lN (zg x z) + lN q39) * 1 ≤ 140737488355328)) (bF q42 (∃ (z' : Nat), ((z' < lN (Big.l x) ∧ z' < z) ∧ nat_lit 3 = 3 ∧ (nat_lit 2 = 2 ∧ 0 = 0) ∧ kI ∧ (cI z) - iO - iO = (cI z') - iO) ∧ ((((q17 ∧ 210 = 210 ∧ 2 = 2 ∧ (1 = 1 ∧ 0 = 0) ∧ nat_lit 5 = 5 ∧ 0 = 0 ∧ lN (zg x z') =
 lN (zg x z) + lN q39) ∧ 141 = 141 ∧ 1 = 1 ∧ zd q18 q18) ∧ lR) ∧ True) ∧ (5 : TypeId) = 5 ∧ 1 = 1 ∧ lN (zg x z') = lN (zg x z) + lN q39 ∧ ∀ (i j : Nat), i < lN (zg x z) + lN q39 → j < 1 → zd (if i < lN (zg x z) then a8 (gD (zg x z) i (0 : UInt8)) else a8 (gD q39 (i - lN (zg x z)) (0 : UInt8))) (AV.v (Value.int IntKind.u8 (cI (UInt8.toNat
 (gD (zg x z') i (0 : UInt8)))))))))))) (0 < lN (zg x z) ∧ ∃ (l : List UInt8), lN l = lN (zg x z) ∧ (∀ (i : Nat), i < lN (zg x z) → a8 (gD (zg x z) i (0 : UInt8)) = a8 (gD l i (0 : UInt8))) ∧ l = itoa q1))))))) ([] = itoa q1)))) := by
 delta bF dK bA a8 xI lR cI kI lZ lN gD iZ iO iX iN iB
 dsimp only
 intro hb
 have e0 : (zR.dflt : Int) = 0 := rfl
 simp only [↓yU, ↓ZF, row_one]
 simp only [sS, dS, e0]
 refine ⟨fun hz => ?_, fun hz => ?_⟩
 ·have he : x.l = [] := List.eq_nil_of_length_eq_zero (by omega)
  rw [he]
  have : itoa ((0 : Nat) : Int) = [48] := by rw [Go.Ar.yY, z7 (by omega)]; rfl
  cases x.neg <;> exact this.symm
 have h0 : 0 < x.l.length := by omega
 have en : ((x.l.length : Int) - 1).toNat = x.l.length - 1 := by omega
 have ez : ∀ z : Nat, ((z : Int) - 1).toNat = z - 1 := fun z => by omega
 simp only [en, ez, Nat.mul_one]
 have gN := hx.get (by omega) (x.l.length - 1)
 obtain ⟨i1, i2, i3⟩ := Wi gN.1 gN.2
 have f1 := Mk hx h0
 refine zX.2 ⟨fun c => ⟨⟨by omega, by omega⟩, fun _ => ⟨⟨by omega, by omega⟩, ⟨by omega, by omega⟩, ⟨by omega, by omega⟩, fun h => absurd h (by omega), fun _ => ⟨by omega, ⟨by omega, by omega⟩, ⟨x.l.length - 1, ⟨⟨by omega, by omega⟩, by omega⟩, ?_, ?_, fun i j _ _ => ?_⟩, ?_⟩⟩, fun h => absurd h (by omega)⟩,
  fun c => ⟨⟨by omega, by omega⟩, fun _ => ⟨⟨by omega, by omega⟩, ⟨by omega, by omega⟩, ⟨by omega, by omega⟩, fun h => absurd h (by omega), fun _ => ⟨by omega, ⟨by omega, by omega⟩, ⟨x.l.length - 1, ⟨⟨by omega, by omega⟩, by omega⟩, ?_, ?_, fun i j _ _ => ?_⟩, ?_⟩⟩, fun h => absurd h (by omega)⟩⟩
 all_goals try rw [c] at f1
 ·rw [f1]; simp only [cond_true, List.length_append, List.length_singleton]
 ·rw [f1]; simp only [cond_true, List.length_append, List.length_singleton]
 ·rw [f1]; exact gF 45 _ i
 rotate_left
 ·rw [f1]; rfl
 ·rw [f1]; rfl
 ·rw [f1]; rfl
 all_goals
  intro z hz1
  have wl := iV hx z
  refine ⟨fun hz2 => ?_, fun hz2 => ?_⟩
  ·have g := hx.get (by omega) (z - 1)
   obtain ⟨g1, g2, g3⟩ := Wi g.1 g.2
   have hs := kw hx ht (z := z) (by omega) hz1
   have lr : (List.replicate (9 - ((itoa (x.l.getD (z - 1) 0)).length : Int)).toNat (48 : UInt8)).length ≤ 8 := by rw [List.length_replicate]; omega
   refine ⟨⟨by omega, by omega⟩, ⟨by omega, by omega⟩, ⟨by omega, by omega⟩, fun _ => ⟨⟨by omega, by omega⟩, ⟨by omega, by omega⟩, by omega, by omega, ⟨by omega, by omega⟩, z - 1, ⟨⟨by omega, by omega⟩, by omega⟩, ?_, ?_, fun i j _ _ => ?_⟩, fun h => absurd h (by omega)⟩
   ·rw [hs, List.length_append, List.length_append]
   ·rw [hs, List.length_append, List.length_append]
   ·rw [hs]; exact gM _ _ _ i
  ·obtain rfl : z = 0 := by omega
   obtain ⟨w1, w2⟩ := JE hx ht h0
   exact ⟨w2, zg x 0, rfl, fun _ _ => rfl, w1⟩
theorem MR {G : List (Nat × Obj)} (hG : zO G) (x : Big) (hx : Zp 1000000000 x.l) (ht : zh x.l = x.l) (hl : x.l.length ≤ 100000000) : zu Tryz.prog G 152 [xz x] (.str (itoa (bif x.neg then - zU 1000000000 x.l else zU 1000000000 x.l))) :=
 zv (T := Gd G) (an := jK x) mixed (oQ hG) (Eq.mp (by kernel_rfl) (OY G x hx ht hl))
theorem MC {G : List (Nat × Obj)} (hG : zO G) : zP Tryz.prog G 152 tY := by
 intro xs ps r h hp
 unfold tY at h
 split at h
 ·skip
  rename_i x_x
  cases h
  obtain ⟨q0, q1, q2, q3, -⟩ := Zo hp
  exact weaken (ys := [xz (yR (α := Big) x_x)]) ⟨Zs q0, trivial⟩ (MR hG (yR (α := Big) x_x) q1 q2 q3)
 ·cases h
end Go.Te

namespace Go.Te
open Go Go.Sx Go.Proofs Go.Ar
set_option maxRecDepth 100000
set_option maxHeartbeats 4000000
def yB (n : Bool) (l : List Int) : Int := bif n then - zU 1000000000 l else zU 1000000000 l
theorem MA (x : Big) : yR (AV.agg 2 fun i => zR.enc x i) = x := Wa x
theorem oz (x : Big) : yp Big (AV.agg 2 fun i => zR.enc x i) = true := X0 x
theorem mP (n : Int) : (zQ (Lib.itoa n)).length = XZ n := by
 obtain ⟨h1, h2⟩ := zb n
 rw [← (SO (Lib.itoa n)).2, wR h1, h2]
def Wj : List AV → Option (List zN × AV)
 | [x_x] => some ([.b (yp Big x_x), .p (Zp 1000000000 (yR (α := Big) x_x).l), .p (zh (yR (α := Big) x_x).l = (yR (α := Big) x_x).l), .p ((yR (α := Big) x_x).l.length ≤ 100000000)], .tup 2 (zw [.str (YK (yB (yR (α := Big) x_x).neg (yR (α := Big) x_x).l)), .i (Zl (yB (yR (α := Big) x_x).neg (yR (α := Big) x_x).l))]))
 | _ => none
theorem Qr (G : List (Nat × Obj)) (x : Big) (hx : Zp 1000000000 x.l) (ht : zh x.l = x.l) (hl : x.l.length ≤ 100000000) :
 let q1 := (AV.agg 2 fun (i : Nat) => zR.enc x (0 + i)); let q3 := (yR q1); let q2 := (Big.l q3); let q4 := (bif Big.neg q3 then -zU iB q2 else zU iB q2); Zy [AV.agg 2 (zR.enc x)] → bF (yp Big q1) ((∀ (x_1 : Int), List.Mem x_1 q2 → iZ ≤ x_1 ∧ x_1 < iB) ∧ zh q2 = Big.l q3 ∧ lN q2 ≤ 100000000 ∧ zZ (zG (300 : Int) (lZ (zQ (Lib.itoa q4)))) (j2 ∧ (True ∧ bA #[] = YK (yB (Big.neg x) (Big.l x))) ∧ kI ∧ (4
 : Int) = Zl (yB (Big.neg x) (Big.l x))) (j2 ∧ (True ∧ Lib.itoa q4 = YK (yB (Big.neg x) (Big.l x))) ∧ kI ∧ iZ = Zl (yB (Big.neg x) (Big.l x)))) := by
 delta bF bA kI j2 lZ lN iZ iB
 dsimp only
 intro hb
 have e0 : (zR.dflt : Int) = 0 := rfl
 simp only [↓yU, ↓ZF, row_one]
 simp only [sS, dS, e0, MA, oz]
 refine ⟨hx, ht, hl, fun h => ?_, fun h => ?_⟩
 all_goals
  have hn := mP (yB x.neg x.l)
  unfold yB at hn
  rw [hn] at h
  unfold YK Zl yB
 ·rw [(ZX _ _).2 (show 300 < XZ _ by omega)]
  exact ⟨rfl, rfl, rfl⟩
 ·rw [show Nat.blt 300 (XZ (bif x.neg then - zU 1000000000 x.l else zU 1000000000 x.l)) = false from Bool.eq_false_iff.2 fun e => by have := (ZX _ _).1 e; omega]
  exact ⟨rfl, rfl, rfl⟩
theorem oH {G : List (Nat × Obj)} (hG : zO G) (x : Big) (hx : Zp 1000000000 x.l) (ht : zh x.l = x.l) (hl : x.l.length ≤ 100000000) : zu Tryz.prog G 103 [xz x] (.tup 2 (zw [.str (YK (yB x.neg x.l)), .i (Zl (yB x.neg x.l))])) :=
 zv (T := ((KR G).plus 152 tY).plus 95 (Yl fun s => .str (zQ s))) (an := .auto) mixed (zz.plus (zz.plus (YF hG) (MC hG)) (zP.mono vI)) (Eq.mp (by kernel_rfl) (Qr G x hx ht hl))
theorem T4 {G : List (Nat × Obj)} (hG : zO G) : zP Tryz.prog G 103 Wj := by
 intro xs ps r h hp
 unfold Wj at h
 split at h
 ·skip
  rename_i x_x
  cases h
  obtain ⟨q0, q1, q2, q3, -⟩ := Zo hp
  exact weaken (ys := [xz (yR (α := Big) x_x)]) ⟨Zs q0, trivial⟩ (oH hG (yR (α := Big) x_x) q1 q2 q3)
 ·cases h
def Uf (xs : List AV) : Option (List zN × AV) :=
 match Su xs with
 | some r => some r
 | none => rN xs
theorem QF : zP Tryz.prog [] 148 Uf := by
 intro xs ps r h hp
 unfold Uf at h
 split at h
 ·rename_i r' h'
  cases h
  exact km _ _ _ h' hp
 ·exact kX _ _ _ h hp
noncomputable def Gk : Tb := (T0.plus 148 Uf).plus 150 tF
theorem oW : zz Tryz.prog Gk := zz.plus (zz.plus zq QF) QX
def Pm (x y : Big) : Bool := bif x.neg == y.neg then x.neg else bif leB 0 (cmpL x.l y.l) then x.neg else y.neg
def R3 (x y : Big) : Int := bif x.neg == y.neg then zU 1000000000 x.l + zU 1000000000 y.l else bif leB 0 (cmpL x.l y.l) then zU 1000000000 x.l - zU 1000000000 y.l else zU 1000000000 y.l - zU 1000000000 x.l
theorem Ri {x y : List Int} (hx : Zp 1000000000 x) (hy : Zp 1000000000 y) (tx : zh x = x) (ty : zh y = y) : (0 ≤ cmpL x y ↔ zU 1000000000 y ≤ zU 1000000000 x) := by
 have e1 : x = zT 1000000000 (zU 1000000000 x).toNat := X3 (b := 1000000000) (by omega) hx tx
 have e2 : y = zT 1000000000 (zU 1000000000 y).toNat := X3 (b := 1000000000) (by omega) hy ty
 have v1 := zf (b := 1000000000) (by omega) hx
 have v2 := zf (b := 1000000000) (by omega) hy
 have c := (oa (b := 1000000000) (by omega) (zU 1000000000 x).toNat (zU 1000000000 y).toNat).1
 rw [← e1, ← e2] at c
 omega
def qh : List AV → Option (List zN × AV)
 | [x_x, x_y] => some ([.b (yp Big x_x), .b (yp Big x_y), .p (Zp 1000000000 (yR (α := Big) x_x).l), .p (Zp 1000000000 (yR (α := Big) x_y).l), .p (zh (yR (α := Big) x_x).l = (yR (α := Big) x_x).l), .p (zh (yR (α := Big) x_y).l = (yR (α := Big) x_y).l), .p ((yR (α := Big) x_x).l.length ≤ 1000000000), .p ((yR (α := Big) x_y).l.length ≤ 1000000000)], .agg 2 (zw [.b (Pm (yR (α := Big) x_x) (yR (α := Big) x_y)), ZA (zT 1000000000 (R3 (yR (α := Big) x_x) (yR (α := Big) x_y)).toNat)]))
 | _ => none
theorem Lf (x : Big) (y : Big) (hx : Zp 1000000000 x.l) (hy : Zp 1000000000 y.l) (tx : zh x.l = x.l) (ty : zh y.l = y.l) (lx : x.l.length ≤ 1000000000) (ly : y.l.length ≤ 1000000000) :
 let q2 := (xI (Big.l x)); let q1 := (z6 Int q2); let q4 := (xI (Big.l y)); let q3 := (z6 Int q4); let q6 := (zt q2); let q5 := (∀ (x_1 : Int), List.Mem x_1 q6 → iZ ≤ x_1 ∧ x_1 < iB); let q8 := (zt q4); let q7 := (∀ (x : Int), List.Mem x q8 → iZ ≤ x ∧ x < iB); let q9 := (zT 1000000000 (Int.toNat (R3 x y))); let q10 := (zT 1000000000 (Int.toNat (zU
 iB q6 + zU iB q8))); let q11 := (zT 1000000000 (Int.toNat (zU iB q6 - zU iB q8))); let q12 := (zT 1000000000 (Int.toNat (zU iB q8 - zU iB q6))); Zy [AV.agg 2 (zR.enc x), AV.agg 2 (zR.enc y)] → zZ (Big.neg x == Big.neg y) (bF q1 (bF q3 (q5 ∧ q7 ∧ lN q6 ≤ 1000000000 ∧ lN q8 ≤ 1000000000 ∧ 2 = 2 ∧ Big.neg x = Pm x y ∧ (false = true → false = true) ∧ 1 = 1 ∧ lN q9 = lN q10 ∧ ∀ (i j : Nat), i < lN q10 → j < 1 → IntKind.i64 =
 .i64 ∧ gD q10 i zR.dflt = gD q9 i zR.dflt))) (bF q1 (bF q3 (q5 ∧ q7 ∧ zZ (leB iZ (cmpL q6 q8)) (bF q1 (bF q3 (q5 ∧ q7 ∧ lN q6 ≤ 1000000000 ∧ lN q8 ≤ 1000000000 ∧ zU iB q8 ≤ zU iB q6 ∧ 2 = 2 ∧ Big.neg x = Pm x y ∧ (false = true → false = true) ∧ 1 = 1 ∧ lN q9 = lN q11 ∧ ∀ (i j : Nat), i < lN q11 → j < 1 → kI ∧ gD q11 i zR.dflt = gD q9 i zR.dflt))) (bF q3 (bF q1 (q7 ∧ q5 ∧ lN q8 ≤ 1000000000 ∧
 lN q6 ≤ 1000000000 ∧ zU iB q6 ≤ zU iB q8 ∧ 2 = 2 ∧ Big.neg y = Pm x y ∧ (false = true → false = true) ∧ 1 = 1 ∧ lN q9 = lN q12 ∧ ∀ (i j : Nat), i < lN q12 → j < 1 → kI ∧ gD q12 i zR.dflt = gD q9 i zR.dflt)))))) := by
 delta bF xI kI lN gD iZ iB
 dsimp only
 intro hb
 have e0 : (zR.dflt : Int) = 0 := rfl
 simp only [↓yU, ↓ZF, row_one]
 simp only [sS, dS, e0]
 refine zX.2 ⟨fun c => ⟨hx, hy, lx, ly, ?_, fun h => h, ?_, fun i j _ _ => ?_⟩, fun c => ⟨hx, hy, fun h => ⟨hx, hy, lx, ly, (Ri hx hy tx ty).1 h, ?_, fun h => h, ?_, fun i j _ _ => ?_⟩, fun h => ⟨hy, hx, ly, lx, ?_, ?_, fun h => h, ?_, fun i j _ _ => ?_⟩⟩⟩
 any_goals (unfold Pm; rw [c]; first | rfl | (rw [show leB 0 (cmpL x.l y.l) = true from (Zx _ _).2 h]; rfl) | (rw [show leB 0 (cmpL x.l y.l) = false from Bool.eq_false_iff.2 fun e => by have := (Zx _ _).1 e; omega]; rfl))
 any_goals (unfold R3; rw [c]; first | rfl | (rw [show leB 0 (cmpL x.l y.l) = true from (Zx _ _).2 h]; rfl) | (rw [show leB 0 (cmpL x.l y.l) = false from Bool.eq_false_iff.2 fun e => by have := (Zx _ _).1 e; omega]; rfl))
 have := Ri hx hy tx ty
 omega
theorem jE (x : Big) (y : Big) (hx : Zp 1000000000 x.l) (hy : Zp 1000000000 y.l) (tx : zh x.l = x.l) (ty : zh y.l = y.l) (lx : x.l.length ≤ 1000000000) (ly : y.l.length ≤ 1000000000) : zu Tryz.prog [] 100 [xz x, xz y] (.agg 2 (zw [.b (Pm x y), ZA (zT 1000000000 (R3 x y).toNat)])) :=
 zv (T := Gk) (an := .auto) mixed oW (Eq.mp (by kernel_rfl) (Lf x y hx hy tx ty lx ly))
theorem j6 : zP Tryz.prog [] 100 qh := by
 intro xs ps r h hp
 unfold qh at h
 split at h
 ·skip
  rename_i x_x x_y
  cases h
  obtain ⟨q0, q1, q2, q3, q4, q5, q6, q7, -⟩ := Zo hp
  exact weaken (ys := [xz (yR (α := Big) x_x), xz (yR (α := Big) x_y)]) ⟨Zs q0, Zs q1, trivial⟩ (jE (yR (α := Big) x_x) (yR (α := Big) x_y) q2 q3 q4 q5 q6 q7)
 ·cases h
theorem nS {x y : Big} (hx : Zp 1000000000 x.l) (hy : Zp 1000000000 y.l) (tx : zh x.l = x.l) (ty : zh y.l = y.l) :
  0 ≤ R3 x y ∧ (bif Pm x y then - R3 x y else R3 x y) = yB x.neg x.l + yB y.neg y.l := by
 have v1 := zf (b := 1000000000) (by omega) hx
 have v2 := zf (b := 1000000000) (by omega) hy
 have c := Ri hx hy tx ty
 unfold Pm R3 yB
 cases hl : leB 0 (cmpL x.l y.l) with
 | true =>
  rw [Zx, c] at hl
  cases x.neg <;> cases y.neg <;> simp <;> omega
 | false =>
  have hl : ¬ 0 ≤ cmpL x.l y.l := fun e => by rw [(Zx _ _).2 e] at hl; cases hl
  rw [c] at hl
  cases x.neg <;> cases y.neg <;> simp <;> omega
end Go.Te

namespace Go.Te
open Go Go.Sx Go.Proofs Go.Ar
set_option maxRecDepth 100000
set_option maxHeartbeats 4000000
def Zi : OB → List Int
 | .arr _ _ n els => (List.range n).map fun i => AV.int (els i 0)
 | _ => []
theorem gh (l : List Int) : Zi (OB.arr 3 1 l.length fun i x => AV.v (Value.int IntKind.i64 (l.getD i 0))) = l := by
 have e : ((List.range l.length).map fun i => l.getD i 0) = l := by
  apply List.ext_getElem
  ·simp
  ·intro i h1 h2
   rw [List.getElem_map, List.getElem_range, List.getD_eq_getElem?_getD, List.getElem?_eq_getElem h2]
   rfl
 exact e
def Td  : yQ :=
 .two .auto (.two (.one (.loop Nat (fun σ z => [(0, .ns (Ym (σ.tm 0)) 0 z)]) (fun σ z => []) 0 (fun σ z => z ≤ (Zi (σ.bl (Ym (σ.tm 0)))).length ∧ ∀ i, z ≤ i → (Zi (σ.bl (Ym (σ.tm 0)))).getD i 0 = 0) (fun σ z => z) .auto)) .auto)
theorem Tk {l : List Int} {z : Nat} (h1 : z ≤ l.length) (h2 : ∀ i, z ≤ i → l.getD i 0 = 0) (c : (zG 0 (z : Int) && l.getD ((z : Int) - 1).toNat 0 == 0) = false) : zh l = l.take z := by
 refine WC h1 h2 ?_
 by_cases hz : z = 0
 ·exact .inl hz
 ·refine .inr fun e => ?_
  rw [(zp _ _).2 (by omega), show ((z : Int) - 1).toNat = z - 1 by omega, e] at c
  cases c
theorem TQ {l : List Int} {z : Nat} (h2 : ∀ i, z ≤ i → l.getD i 0 = 0) (c : (zG 0 (z : Int) && l.getD ((z : Int) - 1).toNat 0 == 0) = true) : 0 < z ∧ ∀ i, z - 1 ≤ i → l.getD i 0 = 0 := by
 rw [Bool.and_eq_true, beq_iff_eq, zp] at c
 have c2 := c.2
 rw [show ((z : Int) - 1).toNat = z - 1 by omega] at c2
 refine ⟨by omega, fun i hi => ?_⟩
 by_cases e : i = z - 1
 ·rw [e]; exact c2
 ·exact h2 i (by omega)
theorem G1 {l m : List Int} {z : Nat} (hz : z ≤ m.length) (h : m.take z = l) : zd (AV.xl false 1 z fun i x => AV.v (Value.int IntKind.i64 (m.getD i 0))) (AV.xl false 1 l.length fun i j => AV.v (Value.int IntKind.i64 (l.getD i 0))) := by
 have hl : z = l.length := by rw [← h, List.length_take]; omega
 rw [← hl]
 refine ⟨fun h => h, rfl, rfl, fun i j hi _ => ?_⟩
 rw [← h]
 show zd (AV.v (Value.int IntKind.i64 (m.getD i 0))) (AV.v (Value.int IntKind.i64 ((m.take z).getD i 0)))
 rw [Yh hi]
 exact zV _
noncomputable def Gl : Tb := (T0.plus 147 Wh).body Tryz.prog [(177, .auto), (147, Td)]
theorem OT : zz Tryz.prog Gl := zz.body mixed (zz.plus zq uN) _
structure YD where
 z : Nat
 q : List Int
 r : Int
def JJ (a : List Int) (d : Int) : yQ :=
 .two .auto (.one (.loop YD (fun σ z => [(0, σ.tm 0), (1, σ.tm 1), (3, .i ((z.z : Int) - 1))]) (fun _ z => [(2, tr z.q), (3, .box 3 1 fun _ => .i z.r)]) 0
  (fun _ z => OJ 1000000000 d a z.z z.q z.r) (fun _ z => z.z) .auto))
def j0 (a : List Int) (d : Int) : yQ :=
 .two .auto (.two .auto (.two .auto (.two (.two .auto (.one (.range (JJ a d) .auto .auto))) .auto)))
def rx : List AV → Option (List zN × AV)
 | [x_a, .v (.int .i64 d)] => some ([.b (z6 Int x_a), .p (Zp 1000000000 (zt x_a)), .p (0 < d ∧ d ≤ 1000000000), .p ((zt x_a).length ≤ 1000000000)], .tup 2 (zw [ZA (zT 1000000000 ((zU 1000000000 (zt x_a)).toNat / d.toNat)), ZA (zT 1000000000 ((zU 1000000000 (zt x_a)).toNat % d.toNat))]))
 | _ => none
theorem Nl (a : List Int) (d : Int) (ha : Zp 1000000000 a) (hd : 0 < d ∧ d ≤ 1000000000) (hl : a.length ≤ 1000000000) :
 let q1 := ((3 = 3 ∧ 1 = 1 ∧ kI ∧ d = d) ∧ 141 = 141 ∧ 1 = 1 ∧ nat_lit 2 = 2 ∧ 0 = 0 ∧ Int.toNat (lZ a) = Int.toNat (lZ a)); let q2 := (xI a); let q13 := (zT 1000000000 (Int.toNat (zU iB a) / Int.toNat d)); let q12 := (xI q13); let q17 := (zT 1000000000 (Int.toNat (zU iB a) % Int.toNat d)); let q16 := (AV.xl false 1 (lN q17) fun
 i j => aI (gD q17 i zR.dflt)); Zy [xI a, aI d] → bF (DB.db (iZ ≤ (lZ a) ∧ (lZ a) ≤ (lZ a) ∧ (↑8 : Int) * (lZ a) ≤ (140737488355328 : Int))) (bF (dK ((lZ a) - iO)) ((∃ (z : YD), (OJ iB d a (YD.z z) (YD.q z) (YD.r z) ∧ nat_lit 5 = 5 ∧ (nat_lit 4 = 4 ∧ 0 = 0) ∧ kI ∧ (lZ a) - iO =
 (cI (YD.z z)) - iO) ∧ (((q1 ∧ (3 : TypeId) = 3 ∧ 1 = 1 ∧ lN (YD.q z) = Int.toNat (lZ a) ∧ ∀ (i j : Nat), i < Int.toNat (lZ a) → j < 1 → zd (Z4 (Value.int .i64 iZ) j) (aI (gD (YD.q z) i iZ))) ∧ (3 : TypeId) = 3 ∧ 1 = 1 ∧ kI ∧ iZ = YD.r z) ∧ 141 = 141 ∧ 1 = 1 ∧ zd q2 q2) ∧ lR) ∧ ∀ (z : YD), let q3 := (gD a (Int.toNat ((cI (YD.z z)) - iO)) zR.dflt + YD.r z * iB); let q4 := (Int.tdiv
 q3 d); let q6 := (bF (dK ((cI (YD.z z)) - iO - iO)) (∃ (z' : YD), ((OJ iB d a (YD.z z') (YD.q z') (YD.r z') ∧ YD.z z' < YD.z z) ∧ nat_lit 5 = 5 ∧ (nat_lit 4 = 4 ∧ 0 = 0) ∧ kI ∧ (cI (YD.z z)) - iO - iO = (cI (YD.z z')) - iO) ∧ (((q1 ∧ 3 = 3 ∧ 1 = 1 ∧ lN (YD.q z') = lN (YD.q z) ∧ ∀ (i j : Nat), i < lN (YD.q z) → j < 1 → zd (if i = 0 + Int.toNat ((cI (YD.z z)) - iO) ∧ 0 ≤ j ∧ j < 1 then aI q4 else aI (List.getD
 (YD.q z) i iZ)) (aI (gD (YD.q z') i iZ))) ∧ 3 = 3 ∧ 1 = 1 ∧ kI ∧ Int.tmod q3 d = YD.r z') ∧ 141 = 141 ∧ 1 = 1 ∧ zd q2 q2) ∧ lR)); let q5 := ((bF (DB.db (d ≠ iZ)) q6 ∧ bF (DB.db (d ≠ iZ)) q6) ∧ bF (DB.db (d ≠ iZ)) q6); let q9 := (Zi (OB.arr (3 : TypeId) 1 (lN (YD.q z)) fun (i x : Nat) => aI (gD (YD.q z) i iZ))); let q10 := (((q1 ∧ 3 = 3 ∧ 1 = 1 ∧ lN (YD.q z) =
 lN (YD.q z) ∧ ∀ (i j : Nat), i < lN (YD.q z) → j < 1 → kI ∧ gD (YD.q z) i iZ = gD (YD.q z) i iZ) ∧ 3 = 3 ∧ 1 = 1 ∧ kI ∧ YD.r z = YD.r z) ∧ 141 = 141 ∧ 1 = 1 ∧ zd q2 q2); let q8 := (∃ (z_1 : Nat), ((z_1 ≤ lN q9 ∧ ∀ (i : Nat), z_1 ≤ i → gD (Zi (OB.arr (3 : TypeId) 1 (lN (YD.q z)) fun (i x : Nat) => aI (gD (YD.q z) i iZ))) i iZ = iZ) ∧ nat_lit 2 = 2 ∧ 0 = 0 ∧ z_1 = Int.toNat (lZ a)) ∧ q10 ∧ True); let q15 := (zh
 (zt (AV.xl true 1 1 (Sx.rowAt [fun (x : Nat) => aI (YD.r z)])))); let q14 := (xI q15); let q7 := (q8 ∧ ∀ (z_1 : Nat), let q11 := (!zr true (zG iZ (cI z_1)) || zr true (zG iZ (cI z_1))); (z_1 ≤ lN q9 ∧ ∀ (i : Nat), z_1 ≤ i → gD (Zi (OB.arr (3 : TypeId) 1 (lN (YD.q z)) fun (i x : Nat) => aI (gD (YD.q z) i iZ))) i iZ = iZ) → bF q11 (bF q11 (bF (!zr true (zG iZ
 (cI z_1)) || dK ((cI z_1) - iO)) (bF q11 (bF q11 (bF (!zr true (zG iZ (cI z_1)) || DB.db (iZ ≤ (cI z_1) - iO ∧ (cI z_1) - iO < (cI z_1))) (bF q11 (bF q11 (bF (!zG iZ (cI z_1) || zr true (zG iZ (cI z_1))) (zZ (bif zG iZ (cI z_1) then gD (YD.q z) (0 + Int.toNat ((cI z_1) - iO)) iZ == iZ else false) (bF (dK ((cI z_1) - iO)) (bF (DB.db (iZ ≤ (cI z_1) - iO ∧ (cI z_1) - (1 :
 Int) ≤ (cI z_1))) (∃ (z' : Nat), (((z' ≤ lN q9 ∧ ∀ (i : Nat), z' ≤ i → gD (Zi (OB.arr (3 : TypeId) 1 (lN (YD.q z)) fun (i x : Nat) => aI (gD (YD.q z) i iZ))) i iZ = iZ) ∧ z' < z_1) ∧ nat_lit 2 = 2 ∧ 0 = 0 ∧ z' = Int.toNat ((cI z_1) - iO)) ∧ q10 ∧ True))) (j2 ∧ (True ∧ zd (AV.xl false 1 z_1 fun i j => aI (gD (YD.q z) (0 + i) iZ)) q12) ∧ zd q14 q16))))))))))); OJ
 iB d a (YD.z z) (YD.q z) (YD.r z) → zZ (leB iZ ((cI (YD.z z)) - iO)) (bF (DB.db (iZ ≤ (cI (YD.z z)) - iO ∧ (cI (YD.z z)) - iO < (lZ a))) (bF (dK (YD.r z * iB)) (zZ (dK q3) (bF (DB.db (d ≠ iZ)) (bF (dK q4) (bF (DB.db (iZ ≤ (cI (YD.z z)) - iO ∧ (cI (YD.z z)) - iO < (cI (Int.toNat (lZ a))))) (q5 ∧ q5 ∧ bF (DB.db (d ≠ iZ)) q6))))
 False))) (q7 ∧ q7 ∧ q8 ∧ ∀ (z_1 : Nat), let q18 := (!zr true (zG iZ (cI z_1)) || zr true (zG iZ (cI z_1))); (z_1 ≤ lN q9 ∧ ∀ (i : Nat), z_1 ≤ i → gD (Zi (OB.arr (3 : TypeId) 1 (lN (YD.q z)) fun (i x : Nat) => aI (gD (YD.q z) i iZ))) i iZ = iZ) → bF q18 (bF q18 (bF (!zr true (zG iZ (cI z_1)) || dK ((cI z_1) - iO)) (bF q18 (bF q18 (bF (!zr true (zG iZ (cI z_1)) || DB.db (iZ ≤ (cI z_1) - (1 :
 Int) ∧ (cI z_1) - iO < (cI z_1))) (bF q18 (bF q18 (bF (!zG iZ (cI z_1) || zr true (zG iZ (cI z_1))) (zZ (bif zG iZ (cI z_1) then gD (YD.q z) (0 + Int.toNat ((cI z_1) - iO)) iZ == iZ else false) (bF (dK ((cI z_1) - iO)) (bF (DB.db (iZ ≤ (cI z_1) - iO ∧ (cI z_1) - iO ≤ (cI z_1))) (∃ (z' : Nat), (((z' ≤ lN q9 ∧ ∀ (i : Nat), z' ≤ i → gD (Zi (OB.arr (3 : TypeId) 1 (lN (YD.q z)) fun (i x : Nat) => AV.v
 (Value.int .i64 (gD (YD.q z) i iZ)))) i iZ = iZ) ∧ z' < z_1) ∧ nat_lit 2 = 2 ∧ 0 = 0 ∧ z' = Int.toNat ((cI z_1) - iO)) ∧ q10 ∧ True))) (j2 ∧ (True ∧ zd (AV.xl false 1 z_1 fun i j => aI (gD (YD.q z) (0 + i) iZ)) q12) ∧ zd q14 q16))))))))))))) := by
 delta bF dK xI lR cI kI j2 lZ lN gD iZ iO iB aI
 dsimp only
 intro hb
 have e0 : (zR.dflt : Int) = 0 := rfl
 simp only [↓yU, ↓ZF, row_one]
 simp only [sS, dS, e0]
 simp only [and_self, gh, implies_true, and_true]
 obtain ⟨d0, d1⟩ := hd
 have va := zf (b := 1000000000) (by omega) ha
 refine ⟨⟨by omega, by omega, by omega⟩, ⟨by omega, by omega⟩, ⟨⟨a.length, List.replicate a.length 0, 0⟩, ⟨.start (by omega) d0 a, rfl⟩, ⟨by simp, fun i j _ hj => vN _ i j hj⟩, rfl⟩, fun z z1 => ⟨fun hz => ?_, fun hz => ?_⟩⟩
 ·have zle := z1.le
  have zl := z1.len
  have R0 := z1.r0
  have R1 := z1.r1
  have hzk : z.z - 1 + 1 = z.z := by omega
  obtain ⟨⟨n0, n1⟩, hs⟩ := (hzk.symm ▸ z1 : OJ 1000000000 d a (z.z - 1 + 1) z.q z.r).step (by omega) ha
  have ek : ((z.z : Int) - 1).toNat = z.z - 1 := by omega
  rw [ek]
  have xk := ha.get (by omega) (z.z - 1)
  have q1 := hs.in_.get (by omega) (z.z - 1)
  rw [Yn _ _ _ _ (by omega), if_pos rfl] at q1
  generalize a.getD (z.z - 1) 0 + z.r * 1000000000 = N at *
  exact ⟨⟨by omega, by omega⟩, ⟨by omega, by omega⟩, ⟨by omega, by omega⟩, by omega, ⟨by omega, by omega⟩, ⟨by omega, by omega⟩, by omega, ⟨by omega, by omega⟩, ⟨z.z - 1, _, _⟩, ⟨⟨hs, by simp only; omega⟩, by simp only; omega⟩, ⟨by simp, fun i j _ => sL _ _ _ (by omega) i j⟩, rfl⟩
 ·have zl := z1.len
  have hz0 : z.z = 0 := by have := z1.le; omega
  obtain ⟨D, rfl⟩ : ∃ D : Nat, d = D := ⟨d.toNat, by omega⟩
  obtain ⟨X, hX⟩ : ∃ X : Nat, zU 1000000000 a = X := ⟨(zU 1000000000 a).toNat, by omega⟩
  obtain ⟨t1, _, t3⟩ := (hz0 ▸ z1 : OJ 1000000000 D a 0 z.q z.r).end_ (b := 1000000000) (by omega) (by omega) (by omega) X hX
  rw [hX]
  simp only [Int.toNat_natCast]
  refine ⟨⟨a.length, ⟨by omega, fun i hi => WE (by omega)⟩, rfl⟩, fun k ⟨k1, k2⟩ => ⟨fun h => ?_, fun h => ?_, zX.2 ⟨fun c => ?_, fun c => ?_⟩⟩⟩
  ·have := (zp _ _).1 h; exact ⟨by omega, by omega⟩
  ·have := (zp _ _).1 h; exact ⟨by omega, by omega⟩
  ·obtain ⟨c1, c2⟩ := TQ k2 c
   exact ⟨⟨by omega, by omega⟩, ⟨by omega, by omega⟩, k - 1, ⟨⟨by omega, c2⟩, by omega⟩, by omega⟩
  ·have ht := Tk k1 k2 c
   refine ⟨rfl, G1 k1 (ht.symm.trans t1), ?_⟩
   have er : zt (AV.xl true 1 1 fun x j => AV.v (Value.int IntKind.i64 z.r)) = [z.r] := rfl
   rw [er, show zh [z.r] = zT 1000000000 (X % D) from t3]
   exact zV _
theorem L2 (a : List Int) (d : Int) (ha : Zp 1000000000 a) (hd : 0 < d ∧ d ≤ 1000000000) (hl : a.length ≤ 1000000000) : zu Tryz.prog [] 176 [ZA a, .i d] (.tup 2 (zw [ZA (zT 1000000000 ((zU 1000000000 a).toNat / d.toNat)), ZA (zT 1000000000 ((zU 1000000000 a).toNat % d.toNat))])) :=
 zv (T := Gl) (an := j0 a d) mixed OT (Eq.mp (by kernel_rfl) (Nl a d ha hd hl))
theorem kj : zP Tryz.prog [] 176 rx := by
 intro xs ps r h hp
 unfold rx at h
 split at h
 ·skip
  rename_i x_a d
  cases h
  obtain ⟨q0, q1, q2, q3, -⟩ := Zo hp
  exact weaken (ys := [ZA (zt x_a), .i d]) ⟨ze q0, zV _, trivial⟩ (L2 (zt x_a) d q1 q2 q3)
 ·cases h
def VF (b u2 v1 v2 : Int) : Nat → Int → Int → Int
 | 0, q, _ => q
 | n + 1, q, r => bif leB b q || (zG r b && zG (r * b + u2) (q * v2)) then (bif leB b (r + v1) then q - 1 else VF b u2 v1 v2 n (q - 1) (r + v1)) else q
def W8 (b : Int) (u v : List Int) (j : Nat) : Int :=
 VF b (u.getD (j + v.length - 2) 0) (v.getD (v.length - 1) 0) (v.getD (v.length - 2) 0) ((u.getD (j + v.length) 0 * b + u.getD (j + v.length - 1) 0).tdiv (v.getD (v.length - 1) 0)).toNat
  ((u.getD (j + v.length) 0 * b + u.getD (j + v.length - 1) 0).tdiv (v.getD (v.length - 1) 0)) ((u.getD (j + v.length) 0 * b + u.getD (j + v.length - 1) 0).tmod (v.getD (v.length - 1) 0))
structure xQ where
 q : Int
 r : Int
def LU (u v : List Int) (j : Int) : yQ :=
 .two .auto (.two .auto (.two .auto (.two .auto (.two (.one (.loop xQ (fun σ z => [(0, σ.tm 0), (1, σ.tm 1), (2, σ.tm 2), (7, σ.tm 7), (9, .i z.q), (10, .i z.r)]) (fun σ z => []) 0 (fun σ z => 0 ≤ z.q ∧ z.q ≤ 2000000000 ∧ 0 ≤ z.r ∧ z.r < 1000000000 ∧ VF 1000000000 (u.getD (j.toNat + v.length - 2) 0) (v.getD (v.length - 1) 0) (v.getD (v.length - 2) 0) z.q.toNat z.q z.r = W8 1000000000 u v j.toNat) (fun σ z => z.q.toNat) .auto)) .auto))))
def Qo : List AV → Option (List zN × AV)
 | [x_u, x_v, .v (.int .i64 j)] => some ([.b (z6 Int x_u), .b (z6 Int x_v), .p (Zp 1000000000 (zt x_u)), .p (Zp 1000000000 (zt x_v)), .p (2 ≤ (zt x_v).length), .p ((zt x_v).length ≤ 1000000000), .p (0 ≤ j ∧ j + (zt x_v).length < (zt x_u).length), .p (0 < (zt x_v).getD ((zt x_v).length - 1) 0), .p ((zt x_u).getD (j.toNat + (zt x_v).length) 0 ≤ (zt x_v).getD ((zt x_v).length - 1) 0)], .i (W8 1000000000 (zt x_u) (zt x_v) j.toNat))
 | _ => none
theorem kh (u : List Int) (v : List Int) (j : Int) (hu : Zp 1000000000 u) (hv : Zp 1000000000 v) (hn : 2 ≤ v.length) (hl : v.length ≤ 1000000000) (hj : 0 ≤ j ∧ j + v.length < u.length) (h1 : 0 < v.getD (v.length - 1) 0) (hc : u.getD (j.toNat + v.length) 0 ≤ v.getD (v.length - 1) 0) :
 let q2 := (yD .i64 (j + (lZ v))); let q1 := (DB.db q2); let q3 := (Int.toNat (j + (lZ v))); let q4 := (j + (lZ v) - iO); let q5 := (gD u q3 zR.dflt * iB + gD u (Int.toNat q4) zR.dflt); let q6 := (dK ((lZ v) - iO)); let q7 := (DB.db (iZ ≤ (lZ v) - iO ∧ (lZ v) - iO < (lZ v))); let q9 := (Int.toNat ((lZ v) - iO)); let q8 := (DB.db (gD v q9 zR.dflt ≠ (0 :
 Int))); let q10 := (gD v q9 zR.dflt); let q11 := (gD u (Int.toNat j + lN v - 2) iZ); let q12 := (gD v (lN v - 1) iZ); let q13 := (gD v (lN v - 2) iZ); let q14 := (xI u); let q15 := (xI v); let q16 := (kI ∧ (lZ v) = (lZ v)); let q21 := (j + (lZ v) - (2 : Int)); Zy [AV.xl false 1
 (lN u) fun i j => aI (gD u i zR.dflt), xI v, aI j] → bF q1 (bF (DB.db (iZ ≤ j + (lZ v) ∧ j + (lZ v) < (lZ u))) (bF (dK (gD u q3 zR.dflt * iB)) (bF q1 (bF (dK q4) (bF (DB.db (iZ ≤ j + (lZ v) - iO ∧ j + (lZ v) - iO < (lZ u))) (bF (DB.db (yD .i64
 q5)) (bF q6 (bF q7 (bF q8 (bF (dK (Int.tdiv q5 q10)) (bF q6 (bF q7 (bF q8 ((∃ (z : xQ), ((iZ ≤ xQ.q z ∧ xQ.q z ≤ (2000000000 : Int) ∧ iZ ≤ xQ.r z ∧ xQ.r z < iB ∧ VF iB q11 q12 q13 (Int.toNat (xQ.q z)) (xQ.q z) (xQ.r z) = W8 iB u v (Int.toNat j)) ∧ zd q14 q14 ∧ zd q15 q15 ∧ (kI ∧ j = j) ∧ q16 ∧ (kI ∧ Int.tdiv q5 q10 = xQ.q z) ∧ kI ∧ Int.tmod q5 q10 = xQ.r z) ∧ True) ∧ ∀ (z : xQ), let q17 := (!zr false (leB iB
 (xQ.q z)) || zr false (leB iB (xQ.q z))); let q19 := (zr false (leB iB (xQ.q z)) && zr true (zG (xQ.r z) iB)); let q18 := (!q19 || zr false (leB iB (xQ.q z)) && zr true (zG (xQ.r z) iB)); let q20 := (xQ.q z * gD v (Int.toNat ((lZ v) - (2 : Int))) zR.dflt); let q22 := (xQ.r z * iB + gD u (Int.toNat q21) zR.dflt); let q23 := (xQ.r z + gD v q9 zR.dflt); iZ ≤ xQ.q z ∧ xQ.q z ≤ (2000000000 : Int) ∧ iZ ≤ xQ.r z ∧ xQ.r z <
 iB ∧ VF iB q11 q12 q13 (Int.toNat (xQ.q z)) (xQ.q z) (xQ.r z) = W8 iB u v (Int.toNat j) → bF q17 (zZ q17 (bF q18 (bF (!q19 || dK ((lZ v) - (2 : Int))) (bF q18 (bF q18 (bF (!q19 || DB.db (iZ ≤ (lZ v) - (2 : Int) ∧ (lZ v) - (2 : Int) < (lZ v))) (bF q18 (bF q18 (bF q18 (bF (!q19 || dK q20) (bF q18 (bF (!q19 || dK (xQ.r z * iB)) (bF q18 (zZ q18
 (bF (!q19 || DB.db q2) (bF q18 (bF (!q19 || dK q21) (bF q18 (bF q18 (bF (!q19 || DB.db (iZ ≤ j + (lZ v) - (2 : Int) ∧ j + (lZ v) - (2 : Int) < (lZ u))) (bF q18 (bF q18 (bF q18 (bF (!q19 || dK q22) (bF q18 (bF q18 (bF q17 (bF (!zr false (leB iB (xQ.q z)) || (!zG (xQ.r z) iB || zr false (leB iB (xQ.q z)) && zr true (zG (xQ.r z) iB))) (bF (!!leB iB (xQ.q z) ||
 zr false (leB iB (xQ.q z))) (zZ (bif leB iB (xQ.q z) then true else bif zG (xQ.r z) iB then zG q22 q20 else false) (bF (dK (xQ.q z - iO)) (bF q6 (bF q7 (bF (dK q23) (zZ (leB iB q23) (kI ∧ xQ.q z - iO = W8 iB u v (Int.toNat j)) (∃ (z' : xQ), (((iZ ≤ xQ.q z' ∧ xQ.q z' ≤ (2000000000 : Int) ∧ iZ ≤ xQ.r z' ∧ xQ.r z' < iB ∧ VF iB q11 q12 q13 (Int.toNat (xQ.q z')) (xQ.q z')
 (xQ.r z') = W8 iB u v (Int.toNat j)) ∧ Int.toNat (xQ.q z') < Int.toNat (xQ.q z)) ∧ zd q14 q14 ∧ zd q15 q15 ∧ (kI ∧ j = j) ∧ q16 ∧ (kI ∧ xQ.q z - iO = xQ.q z') ∧ kI ∧ xQ.r z + gD v q9 zR.dflt = xQ.r z') ∧ True)))))) (kI ∧ xQ.q z = W8 iB u v (Int.toNat j)))))))))))))))))) False)))))))))))))
 False))))))))))))))) := by
 delta bF dK xI kI lZ lN gD iZ iO iB aI
 dsimp only
 intro hb
 have e0 : (zR.dflt : Int) = 0 := rfl
 simp only [↓yU, ↓ZF, row_one]
 simp only [sS, dS, e0]
 have hu1 : u.length ≤ 9223372036854775807 := hb.1.1
 have en : ((v.length : Int) - 1).toNat = v.length - 1 := by omega
 have en2 : ((v.length : Int) - 2).toNat = v.length - 2 := by omega
 have ej : (j + (v.length : Int)).toNat = j.toNat + v.length := by omega
 have ej1 : (j + (v.length : Int) - 1).toNat = j.toNat + v.length - 1 := by omega
 have ej2 : (j + (v.length : Int) - 2).toNat = j.toNat + v.length - 2 := by omega
 rw [en, en2, ej, ej1, ej2]
 have hF : W8 1000000000 u v j.toNat = VF 1000000000 (u.getD (j.toNat + v.length - 2) 0) (v.getD (v.length - 1) 0) (v.getD (v.length - 2) 0) ((u.getD (j.toNat + v.length) 0 * 1000000000 + u.getD (j.toNat + v.length - 1) 0).tdiv (v.getD (v.length - 1) 0)).toNat
  ((u.getD (j.toNat + v.length) 0 * 1000000000 + u.getD (j.toNat + v.length - 1) 0).tdiv (v.getD (v.length - 1) 0)) ((u.getD (j.toNat + v.length) 0 * 1000000000 + u.getD (j.toNat + v.length - 1) 0).tmod (v.getD (v.length - 1) 0)) := rfl
 rw [hF]
 have u0 := hu.get (by omega) (j.toNat + v.length)
 have u1 := hu.get (by omega) (j.toNat + v.length - 1)
 have u2 := hu.get (by omega) (j.toNat + v.length - 2)
 have w1 := hv.get (by omega) (v.length - 1)
 have w2 := hv.get (by omega) (v.length - 2)
 clear hF
 generalize u.getD (j.toNat + v.length) 0 = a0 at *
 generalize u.getD (j.toNat + v.length - 1) 0 = a1 at *
 generalize u.getD (j.toNat + v.length - 2) 0 = a2 at *
 generalize v.getD (v.length - 1) 0 = b1 at *
 generalize v.getD (v.length - 2) 0 = b2 at *
 obtain ⟨e, m0, m1, q0⟩ := jl (n := a0 * 1000000000 + a1) (b := b1) (by omega) h1
 have qle : (a0 * 1000000000 + a1).tdiv b1 ≤ 2000000000 := by
  refine Decidable.byContradiction fun hn => ?_
  have t1 : b1 * 2000000001 ≤ b1 * (a0 * 1000000000 + a1).tdiv b1 := Int.mul_le_mul_of_nonneg_left (by omega) (by omega)
  omega
 generalize (a0 * 1000000000 + a1).tdiv b1 = q at *
 generalize (a0 * 1000000000 + a1).tmod b1 = r at *
 obtain ⟨E, hE⟩ : ∃ E, VF 1000000000 a2 b1 b2 q.toNat q r = E := ⟨_, rfl⟩
 rw [hE]
 refine ⟨⟨by omega, by omega⟩, ⟨by omega, by omega⟩, ⟨by omega, by omega⟩, ⟨by omega, by omega⟩, ⟨by omega, by omega⟩, ⟨by omega, by omega⟩, ⟨by omega, by omega⟩, ⟨by omega, by omega⟩, ⟨by omega, by omega⟩, by omega, ⟨by omega, by omega⟩, ⟨by omega, by omega⟩, ⟨by omega, by omega⟩, by omega, ⟨⟨q, r⟩, ⟨q0, qle, m0, by simp only; omega, hE⟩, rfl, rfl⟩, fun ⟨Q, R⟩ ⟨z1, z2, z3, z4, z5⟩ => ?_⟩
 simp only at z1 z2 z3 z4 z5 ⊢
 have p0 : 0 ≤ Q * b2 := Int.mul_nonneg z1 w2.1
 have p1 : Q * b2 ≤ Q * 1000000000 := Int.mul_le_mul_of_nonneg_left (by omega) z1
 refine ⟨fun _ => ⟨by omega, by omega⟩, fun _ => ⟨by omega, by omega⟩, fun _ => ⟨by omega, by omega⟩, fun _ => ⟨by omega, by omega⟩, fun _ => ⟨by omega, by omega⟩, fun _ => ⟨by omega, by omega⟩, fun _ => ⟨by omega, by omega⟩, fun _ => ⟨by omega, by omega⟩, ?_⟩
 refine te (by cases leB 1000000000 Q <;> cases zG R 1000000000 <;> rfl) ?_
 refine zX.2 ⟨fun c => ?_, fun c => ?_⟩
 ·have hQ : 0 < Q := by
   rw [Bool.or_eq_true, Zx, Bool.and_eq_true, zp, zp] at c
   rcases c with c | c
   ·omega
   ·refine Decidable.byContradiction fun hn => ?_
    have : Q = 0 := by omega
    rw [this, Int.zero_mul] at c
    omega
  obtain ⟨n, hn⟩ : ∃ n : Nat, Q.toNat = n + 1 := ⟨Q.toNat - 1, by omega⟩
  rw [hn] at z5 ⊢
  unfold VF at z5
  rw [c, cond_true] at z5
  have hn2 : (Q - 1).toNat = n := by omega
  refine ⟨⟨by omega, by omega⟩, ⟨by omega, by omega⟩, ⟨by omega, by omega⟩, ⟨by omega, by omega⟩, fun h => ?_, fun h => ⟨⟨Q - 1, R + b1⟩, ⟨⟨by simp only; omega, by simp only; omega, by simp only; omega, h, ?_⟩, by simp only; omega⟩, rfl, rfl⟩⟩
  ·rw [(Zx _ _).2 h] at z5; exact z5
  ·rw [show leB 1000000000 (R + b1) = false from Bool.eq_false_iff.2 fun e => by have := (Zx _ _).1 e; omega] at z5
   rw [← z5]
   simp only [hn2, cond_false]
 ·rw [← z5]
  cases hQ : Q.toNat with
  | zero => rfl
  | succ n => unfold VF; rw [c]; rfl
theorem Jh (u : List Int) (v : List Int) (j : Int) (hu : Zp 1000000000 u) (hv : Zp 1000000000 v) (hn : 2 ≤ v.length) (hl : v.length ≤ 1000000000) (hj : 0 ≤ j ∧ j + v.length < u.length) (h1 : 0 < v.getD (v.length - 1) 0) (hc : u.getD (j.toNat + v.length) 0 ≤ v.getD (v.length - 1) 0) : zu Tryz.prog [] 178 [ZA u, ZA v, .i j] (.i (W8 1000000000 u v j.toNat)) :=
 zv (T := T0) (an := LU u v j) mixed zq (Eq.mp (by kernel_rfl) (kh u v j hu hv hn hl hj h1 hc))
theorem IV : zP Tryz.prog [] 178 Qo := by
 intro xs ps r h hp
 unfold Qo at h
 split at h
 ·skip
  rename_i x_u x_v j
  cases h
  obtain ⟨q0, q1, q2, q3, q4, q5, q6, q7, q8, -⟩ := Zo hp
  exact weaken (ys := [ZA (zt x_u), ZA (zt x_v), .i j]) ⟨ze q0, ze q1, zV _, trivial⟩ (Jh (zt x_u) (zt x_v) j q2 q3 q4 q5 q6 q7 q8)
 ·cases h
noncomputable def GC : Tb := (T0.plus 155 vC).body Tryz.prog [(147, Td)]
theorem oG : zz Tryz.prog GC := zz.body mixed (zz.plus zq rW) _
def W2 (x y : List Int) : List Int := zT 1000000000 (zU 1000000000 x * zU 1000000000 y).toNat
theorem N7 (x y : List Int) (hx : Zp 1000000000 x) (hy : Zp 1000000000 y) (hlx : x.length ≤ 1000000000) (hly : y.length ≤ 1000000000) :
 let q1 := ((lZ x) + (lZ y) + iO); let q2 := (xI y); let q3 := (nat_lit 0 = 0 ∧ 0 = 0 ∧ Int.toNat q1 = Int.toNat q1); let q4 := (xI x); let q5 := (kI ∧ (lZ x) = (lZ x)); let q9 := (kI ∧ (lZ y) + iO = (lZ y) + iO); let q13 := (zt q2); Zy [AV.xl false 1 (lN x)
 fun i j => aI (gD x i zR.dflt), xI y] → bF (dK ((lZ x) + (lZ y))) (bF (dK q1) (bF (DB.db (iZ ≤ (lZ x) + (lZ y) + iO ∧ (lZ x) + (lZ y) + iO ≤ (lZ x) + (lZ y) + iO ∧ (↑8 : Int) * q1 ≤ (140737488355328 : Int))) ((∃ (z : yX), ((wE iB x y (yX.i z) (yX.out z) ∧
 yX.i z ≤ lN x) ∧ zd q2 q2 ∧ q3 ∧ zd q4 q4 ∧ q5 ∧ kI ∧ iZ = (cI (yX.i z))) ∧ (3 : TypeId) = 3 ∧ 1 = 1 ∧ lN (yX.out z) = Int.toNat q1 ∧ ∀ (i j : Nat), i < Int.toNat q1 → j < 1 → zd (Z4 (Value.int .i64 iZ) j) (aI (gD (yX.out z) i iZ))) ∧ ∀ (z : yX), let q6 := (Int.toNat (AV.int (aI (cI (yX.i z))))); let q7 := (kI ∧ (cI (yX.i z)) = (cI (yX.i z))); let q8 := (kI ∧ gD x (Int.toNat (cI (yX.i z))) zR.dflt = gD x (Int.toNat
 (cI (yX.i z))) zR.dflt); let q16 := (Zi (OB.arr (3 : TypeId) 1 (lN (yX.out z)) fun (i x : Nat) => aI (gD (yX.out z) i iZ))); wE iB x y (yX.i z) (yX.out z) ∧ yX.i z ≤ lN x → zZ (zG (cI (yX.i z)) (lZ x)) (bF (DB.db (iZ ≤ (cI (yX.i z)) ∧ (cI (yX.i z)) < (lZ x))) (bF (dK ((lZ y) + iO)) ((∃ (z_1 : yy), ((MulK iB x y q6 (yy.k z_1) (yy.out z_1) (yy.c z_1) ∧ yy.k z_1 ≤ lN y + 1 ∧
 (yy.k z_1 = lN y + 1 → yy.c z_1 = iZ)) ∧ zd q2 q2 ∧ q3 ∧ q7 ∧ q8 ∧ zd q4 q4 ∧ q5 ∧ q7 ∧ q9 ∧ (kI ∧ iZ = yy.c z_1) ∧ kI ∧ iZ = (cI (yy.k z_1))) ∧ 3 = 3 ∧ 1 = 1 ∧ lN (yy.out z_1) = lN (yX.out z) ∧ ∀ (i j : Nat), i < lN (yX.out z) → j < 1 → kI ∧ gD (yX.out z) i iZ = gD (yy.out z_1) i iZ) ∧ ∀ (z_1 : yy), let q11 := ((cI (yX.i z)) + (cI (yy.k z_1))); let q10 := (dK q11); let q12 := (DB.db (iZ ≤ (cI (yX.i z)) +
 (cI (yy.k z_1)) ∧ (cI (yX.i z)) + (cI (yy.k z_1)) < (cI (Int.toNat q1)))); let q14 := (0 + Int.toNat q11); let q15 := (gD (yy.out z_1) q14 iZ + gD x (Int.toNat (cI (yX.i z))) zR.dflt * gD q13 (Int.toNat (cI (yy.k z_1))) iZ + yy.c z_1); MulK iB x y q6 (yy.k z_1) (yy.out z_1) (yy.c z_1) ∧ yy.k z_1 ≤ lN y + 1 ∧ (yy.k z_1 = lN y + 1 → yy.c z_1 = iZ) → zZ (zG (cI (yy.k z_1)) ((lZ y) + iO)) (bF q10 (bF q12 (bF (z6 Int q2) (iZ ≤
 (cI (yy.k z_1)) ∧ bF (dK (gD x (Int.toNat (cI (yX.i z))) zR.dflt * gD q13 (Int.toNat (cI (yy.k z_1))) iZ)) (bF (dK (gD (yy.out z_1) q14 iZ + gD x (Int.toNat (cI (yX.i z))) zR.dflt * gD q13 (Int.toNat (cI (yy.k z_1))) iZ)) (bF (dK q15) (bF q10 (bF (dK (Int.tdiv q15 iB)) (bF q12 (bF (dK ((cI (yy.k z_1)) + iO)) (∃ (z' : yy), (((MulK iB x y q6 (yy.k z') (yy.out z') (yy.c
 z') ∧ yy.k z' ≤ lN y + 1 ∧ (yy.k z' = lN y + 1 → yy.c z' = iZ)) ∧ lN y + 1 - yy.k z' < lN y + 1 - yy.k z_1) ∧ zd q2 q2 ∧ q3 ∧ q7 ∧ q8 ∧ zd q4 q4 ∧ q5 ∧ q7 ∧ q9 ∧ (kI ∧ Int.tdiv q15 iB = yy.c z') ∧ kI ∧ (cI (yy.k z_1)) + iO = (cI (yy.k z'))) ∧ 3 = 3 ∧ 1 = 1 ∧ lN (yy.out z') = lN (yy.out z_1) ∧ ∀ (i j : Nat), i < lN (yy.out z_1) → j < 1 → zd (if i = 0 + Int.toNat q11 ∧ 0 ≤ j ∧ j < 1 then aI (Int.tmod q15 iB) else AV.v
 (Value.int .i64 (gD (yy.out z_1) i iZ))) (aI (gD (yy.out z') i iZ))))))))))))) (bF (dK ((cI (yX.i z)) + iO)) (∃ (z' : yX), (((wE iB x y (yX.i z') (yX.out z') ∧ yX.i z' ≤ lN x) ∧ lN x - yX.i z' < lN x - yX.i z) ∧ zd q2 q2 ∧ q3 ∧ zd q4 q4 ∧ q5 ∧ kI ∧ (cI (yX.i z)) + iO = (cI (yX.i z'))) ∧ 3 = 3 ∧ 1 = 1 ∧ lN (yX.out z') = lN (yy.out z_1) ∧ ∀ (i j : Nat), i
 < lN (yy.out z_1) → j < 1 → kI ∧ gD (yy.out z_1) i iZ = gD (yX.out z') i iZ))))) ((∃ (z_1 : Nat), ((z_1 ≤ lN q16 ∧ ∀ (i : Nat), z_1 ≤ i → gD (Zi (OB.arr (3 : TypeId) 1 (lN (yX.out z)) fun (i x : Nat) => aI (gD (yX.out z) i iZ))) i iZ = iZ) ∧ nat_lit 0 = 0 ∧ 0 = 0 ∧ z_1 = Int.toNat q1) ∧ 3 = 3 ∧ 1 = 1 ∧ lN (yX.out z) = lN (yX.out z) ∧ ∀ (i j : Nat), i < lN (yX.out z) → j < 1 → kI ∧ gD (yX.out
 z) i iZ = gD (yX.out z) i iZ) ∧ ∀ (z_1 : Nat), let q17 := (!zr true (zG iZ (cI z_1)) || zr true (zG iZ (cI z_1))); (z_1 ≤ lN q16 ∧ ∀ (i : Nat), z_1 ≤ i → gD (Zi (OB.arr (3 : TypeId) 1 (lN (yX.out z)) fun (i x : Nat) => aI (gD (yX.out z) i iZ))) i iZ = iZ) → bF q17 (bF q17 (bF (!zr true (zG iZ (cI z_1)) || dK ((cI z_1) - iO)) (bF q17 (bF q17 (bF (!zr true (zG iZ (cI z_1)) || DB.db (iZ ≤
 (cI z_1) - iO ∧ (cI z_1) - iO < (cI z_1))) (bF q17 (bF q17 (bF (!zG iZ (cI z_1) || zr true (zG iZ (cI z_1))) (zZ (bif zG iZ (cI z_1) then gD (yX.out z) (0 + Int.toNat ((cI z_1) - iO)) iZ == iZ else false) (bF (dK ((cI z_1) - iO)) (bF (DB.db (iZ ≤ (cI z_1) - iO ∧ (cI z_1) - iO ≤ (cI z_1))) (∃ (z' : Nat), (((z' ≤ lN q16 ∧ ∀ (i : Nat), z' ≤ i → gD (Zi (OB.arr (3 : TypeId) 1 (lN (yX.out z))
 fun (i x : Nat) => aI (gD (yX.out z) i iZ))) i iZ = iZ) ∧ z' < z_1) ∧ nat_lit 0 = 0 ∧ 0 = 0 ∧ z' = Int.toNat ((cI z_1) - iO)) ∧ 3 = 3 ∧ 1 = 1 ∧ lN (yX.out z) = lN (yX.out z) ∧ ∀ (i j : Nat), i < lN (yX.out z) → j < 1 → kI ∧ gD (yX.out z) i iZ = gD (yX.out z) i iZ))) (3 = 3 ∧ 1 = 1 ∧ z_1 = lN (W2 x y) ∧ ∀ (i j : Nat), i < lN (W2 x y) → j < 1 → kI ∧ gD (yX.out z) i iZ = gD (W2 x y) i (0 :
 Int))))))))))))))) := by
 delta bF dK xI cI kI lZ lN gD iZ iO iB aI
 dsimp only
 intro hb
 have e0 : (zR.dflt : Int) = 0 := rfl
 simp only [↓yU, ↓ZF, row_one]
 simp only [sS, dS, e0, gh, implies_true, and_true]
 have en : ((x.length : Int) + (y.length : Int) + 1).toNat = x.length + y.length + 1 := by omega
 rw [en]
 refine ⟨⟨by omega, by omega⟩, ⟨by omega, by omega⟩, ⟨by omega, Int.le_refl _, by omega⟩, ⟨⟨0, List.replicate (x.length + y.length + 1) 0⟩, ⟨⟨.zero_ (by omega) _ _, Nat.zero_le _⟩, rfl⟩, by simp, fun i j _ hj => vN _ i j hj⟩, fun z ⟨z1, z2⟩ => ⟨fun hz => ⟨⟨by omega, hz⟩, ⟨by omega, by omega⟩, ⟨⟨0, 0, z.out⟩, ⟨⟨z1.start (by omega), Nat.zero_le _, fun h => rfl⟩, rfl, rfl⟩, rfl, fun _ _ _ _ => rfl⟩, fun w ⟨w1, w2, w3⟩ => ⟨fun hk0 => ?_, fun hk0 => ?_⟩⟩, fun hz => ?_⟩⟩
 ·have hz' : z.i < x.length := by omega
  have w4 := w1.len
  have hk : w.k ≤ y.length := by omega
  have ek : ((z.i : Int) + (w.k : Int)).toNat = z.i + w.k := by omega
  rw [ek]
  obtain ⟨⟨n0, n1⟩, hs⟩ := w1.step (by omega) hx hy hz' hk
  have g1 := hx.get (by omega) z.i
  have g2 := hy.get (by omega) w.k
  have g3 := w1.in_.get (by omega) (z.i + w.k)
  have c0 := w1.c0
  have c1 := w1.c1
  have p0 : 0 ≤ x.getD z.i 0 * y.getD w.k 0 := Int.mul_nonneg g1.1 g2.1
  have d0 := hs.c0
  have d1 := hs.c1
  refine ⟨⟨by omega, by omega⟩, ⟨by omega, by omega⟩, by omega, ⟨by omega, by omega⟩, ⟨by omega, by omega⟩, ⟨by omega, by omega⟩, ⟨by omega, by omega⟩, ⟨by omega, by omega⟩, ⟨by omega, by omega⟩, ⟨by omega, by omega⟩, ⟨w.k + 1, _, _⟩, ⟨⟨⟨hs, by simp only; omega, fun h => ?_⟩, by simp only; omega⟩, rfl, rfl⟩, by simp, fun i j _ => sL _ _ _ (by omega) i j⟩
  have hk' : w.k = y.length := by simp only at h; omega
  have := (hk' ▸ w1 : MulK 1000000000 x y z.i y.length w.out w.c).last (by omega)
  rw [← hk'] at this
  exact this
 ·have c0 := w1.c0
  have hc := w3 (by omega)
  exact ⟨⟨by omega, by omega⟩, ⟨z.i + 1, w.out⟩, ⟨⟨⟨w1.fin (by omega) w2 hc, by simp only; omega⟩, by simp only; omega⟩, rfl⟩, rfl, fun _ _ _ _ => rfl⟩
 ·have hz' : z.i = x.length := by omega
  have zl := z1.len
  have he := (hz' ▸ z1 : wE 1000000000 x y x.length z.out).end_ (b := 1000000000) (by omega)
  refine ⟨⟨x.length + y.length + 1, ⟨by omega, fun i hi => WE (by omega)⟩, rfl⟩, fun k ⟨k1, k2⟩ => ⟨fun h => ?_, fun h => ?_, zX.2 ⟨fun c => ?_, fun c => ?_⟩⟩⟩
  ·have := (zp _ _).1 h; exact ⟨by omega, by omega⟩
  ·have := (zp _ _).1 h; exact ⟨by omega, by omega⟩
  ·obtain ⟨c1, c2⟩ := TQ k2 c
   exact ⟨⟨by omega, by omega⟩, ⟨by omega, by omega⟩, k - 1, ⟨⟨by omega, c2⟩, by omega⟩, by omega⟩
  ·have ht := Tk k1 k2 c
   have hp : z.out.take k = W2 x y := ht.symm.trans he
   have hkl : k = (W2 x y).length := by rw [← hp, List.length_take]; omega
   exact ⟨hkl, fun i j hi _ => by rw [← hp, Yh (by omega)]⟩
theorem lF {x y : List Int} (hx : Zp 1000000000 x) (hy : Zp 1000000000 y) (hlx : x.length ≤ 1000000000) (hly : y.length ≤ 1000000000) : yO Tryz.prog [] 113 [ZA x, ZA y] 3 1 (W2 x y).length (fun i _ => .i ((W2 x y).getD i 0)) :=
 Rs mixed oG (Eq.mp (by kernel_rfl) (N7 x y hx hy hlx hly) : Sr Tryz.prog GC 113 (Tj x y) [ZA x, ZA y] 3 1 (W2 x y).length (fun i _ => .i ((W2 x y).getD i 0)))
def Sk : List AV → Option (List zN × TypeId × Nat × Nat × (Nat → Nat → AV))
 | [x, y] => some ([.b (z6 Int x), .b (z6 Int y), .p (Zp 1000000000 (zt x)), .p (Zp 1000000000 (zt y)), .p ((zt x).length ≤ 1000000000), .p ((zt y).length ≤ 1000000000)], 3, 1, (W2 (zt x) (zt y)).length, fun i _ => .i ((W2 (zt x) (zt y)).getD i 0))
 | _ => none
theorem KF : Uq Tryz.prog [] 113 Sk := by
 intro xs ps ty sz len els h hp
 unfold Sk at h
 split at h
 ·rename_i x y
  cases h
  have q0 : z6 Int x = true := hp (.b (z6 Int x)) (by simp)
  have q1 : z6 Int y = true := hp (.b (z6 Int y)) (by simp)
  have q2 : Zp 1000000000 (zt x) := hp (.p (Zp 1000000000 (zt x))) (by simp)
  have q3 : Zp 1000000000 (zt y) := hp (.p (Zp 1000000000 (zt y))) (by simp)
  have q4 : (zt x).length ≤ 1000000000 := hp (.p ((zt x).length ≤ 1000000000)) (by simp)
  have q5 : (zt y).length ≤ 1000000000 := hp (.p ((zt y).length ≤ 1000000000)) (by simp)
  exact kO (ys := [ZA (zt x), ZA (zt y)]) ⟨ze q0, ze q1, trivial⟩ (lF q2 q3 q4 q5)
 ·cases h
end Go.Te
