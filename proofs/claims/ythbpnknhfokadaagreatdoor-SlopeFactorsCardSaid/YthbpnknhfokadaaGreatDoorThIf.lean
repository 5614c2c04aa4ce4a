/- integer: write, result; strings.Repeat of the digit 0. -/
import Derived.Test.YthbpnknhfokadaaGreatDoorThI0
set_option linter.unusedSimpArgs false
set_option linter.unusedVariables false
namespace Go.Te
open Go Go.Sx Go.Proofs Go.Ar Go.Lib
set_option maxRecDepth 100000
set_option maxHeartbeats 4000000
def My : List AV → Option (List zN × AV)
 | [.str s, .v (.int .i64 k)] => some ([.b (s == [48]), .p (0 ≤ k ∧ k ≤ 14)], .str (List.replicate k.toNat 48))
 | _ => none
theorem J2  :
 True := by
 trivial
theorem jH  :
 True := by
 trivial
theorem JV  :
 True := by
 trivial
theorem jh  :
 True := by
 trivial
theorem iF  :
 True := by
 trivial
theorem iC  :
 True := by
 trivial
theorem ia  :
 True := by
 trivial
theorem Jp  :
 True := by
 trivial
theorem JY  :
 True := by
 trivial
theorem Jx  :
 True := by
 trivial
theorem li  :
 True := by
 trivial
theorem lI  :
 True := by
 trivial
theorem ky  :
 True := by
 trivial
theorem KI  :
 True := by
 trivial
theorem kO  :
 True := by
 trivial
theorem vV {k : Int} {n : Nat} (e : k = n) (h : Pv Tryz.prog (T0.deep Tryz.prog 5) 116 .auto [.str [48], .i k] (GX (List.replicate n 48))) : zu Tryz.prog [] 116 [.str [48], .i k] (.str (List.replicate k.toNat 48)) := by
 subst e
 exact RH mixed (zz.deep mixed zq 5) jx h
theorem HK : zP Tryz.prog [] 116 My := by
 intro xs ps r h hp
 unfold My at h
 split at h
 ·rename_i s k
  cases h
  have q : (s == [48]) = true := hp _ List.mem_cons_self
  have q1 : 0 ≤ k ∧ k ≤ 14 := hp _ (List.mem_cons_of_mem _ List.mem_cons_self)
  obtain rfl := eq_of_beq q
  obtain ⟨n, rfl⟩ : ∃ n : Nat, k = n := ⟨k.toNat, by omega⟩
  match n, q1 with
  | 0, _ => exact vV rfl (Eq.mp (by kernel_rfl) J2)
  | 1, _ => exact vV rfl (Eq.mp (by kernel_rfl) jH)
  | 2, _ => exact vV rfl (Eq.mp (by kernel_rfl) JV)
  | 3, _ => exact vV rfl (Eq.mp (by kernel_rfl) jh)
  | 4, _ => exact vV rfl (Eq.mp (by kernel_rfl) iF)
  | 5, _ => exact vV rfl (Eq.mp (by kernel_rfl) iC)
  | 6, _ => exact vV rfl (Eq.mp (by kernel_rfl) ia)
  | 7, _ => exact vV rfl (Eq.mp (by kernel_rfl) Jp)
  | 8, _ => exact vV rfl (Eq.mp (by kernel_rfl) JY)
  | 9, _ => exact vV rfl (Eq.mp (by kernel_rfl) Jx)
  | 10, _ => exact vV rfl (Eq.mp (by kernel_rfl) li)
  | 11, _ => exact vV rfl (Eq.mp (by kernel_rfl) lI)
  | 12, _ => exact vV rfl (Eq.mp (by kernel_rfl) ky)
  | 13, _ => exact vV rfl (Eq.mp (by kernel_rfl) KI)
  | 14, _ => exact vV rfl (Eq.mp (by kernel_rfl) kO)
  | n + 15, q1 => exact absurd q1.2 (by omega)
 ·cases h
def Tb.own1 (T : Tb) (f : FuncId) (t : Nat → (Nat → OB) → List AV → (Nat → (Nat → OB) → AV → Prop) → Prop) : Tb := { T with own := fun g => bif Nat.beq g f then some t else T.own g }
theorem zz.own1 {P : Program} {T : Tb} (hT : zz P T) {f : FuncId} {t : Nat → (Nat → OB) → List AV → (Nat → (Nat → OB) → AV → Prop) → Prop} (ht : uQ P T.objs f t) : zz P (Tb.own1 T f t) := by
 refine ⟨fun g t' h => ?_, hT.pu, hT.fre⟩
 simp only [Tb.own1] at h
 cases hx : Nat.beq g f with
 | false => rw [hx] at h; exact hT.own _ _ h
 | true =>
  rw [hx] at h
  obtain rfl := Nat.eq_of_beq_eq_true hx
  cases h
  exact ht
noncomputable def GQ (G : List (Nat × Obj)) : Tb := (Tb.own1 (Tb.own1 (KL G) 189 gK) 160 lG).body Tryz.prog [(185, .auto), (158, .auto), (159, .auto), (177, .auto)]
theorem nz {G : List (Nat × Obj)} (hG : zO G) : zz Tryz.prog (GQ G) := zz.body mixed (zz.own1 (zz.own1 (YD hG) (Ja G)) (Kv G)) _
noncomputable def GH (G : List (Nat × Obj)) : Tb := (GQ G).plus 116 My
theorem OJ {G : List (Nat × Obj)} (hG : zO G) : zz Tryz.prog (GH G) := zz.plus (nz hG) (zP.mono HK)
def zg (x : Big) (z : Nat) : zj := (bif x.neg then [45] else []) ++ Lib.decDigits (wi 1000000000 x.l z)
def gX (σ : zJ) : Nat :=
 match σ.bl 1 with
 | .box _ _ cs => YN (cs 1)
 | _ => 0
def Jo (x : Big) : yQ :=
 .two .auto (.one (.two .auto (.unroll (x.l.length + 1) (.loop Nat (fun σ z => [(0, σ.tm 0), (1, σ.tm 1), (3, .i ((z : Int) - 1))])
  (fun σ z => [(1, .box 210 2 (zw [.np 1 0, .ns σ.nb 0 (zg x z).length])), (gX σ, .dead), (σ.nb, gF (zg x z))]) 1 (fun _ z => z < x.l.length) (fun _ z => z) .auto))))
def ja (x : Big) : yQ :=
 .two .auto (.two .auto (.two .auto (.two .auto (.two (.two .auto (.one (.range (Jo x) .auto .auto))) .auto))))
theorem TE (a b : zj) (i : Nat) : (a ++ b).getD i 0 = if i < a.length then a.getD i 0 else b.getD (i - a.length) 0 := by
 by_cases h : i < a.length
 ·rw [if_pos h, List.getD_eq_getElem?_getD, List.getElem?_append_left h, ← List.getD_eq_getElem?_getD]
 ·rw [if_neg h, List.getD_eq_getElem?_getD, List.getElem?_append_right (by omega), ← List.getD_eq_getElem?_getD]
theorem gb (a b : zj) (i : Nat) : ze (if i < a.length then AV.v (Value.int IntKind.u8 ((a.getD i 0).toNat : Int)) else AV.v (Value.int IntKind.u8 ((b.getD (i - a.length) 0).toNat : Int))) (AV.v (Value.int IntKind.u8 (((a ++ b).getD i 0).toNat : Int))) := by
 rw [TE]
 split <;> exact zV _
theorem Gv (a b c : zj) (i : Nat) : ze (if i < a.length + b.length then (if i < a.length then AV.v (Value.int IntKind.u8 ((a.getD i 0).toNat : Int)) else AV.v (Value.int IntKind.u8 ((b.getD (i - a.length) 0).toNat : Int))) else AV.v (Value.int IntKind.u8 ((c.getD (i - (a.length + b.length)) 0).toNat : Int))) (AV.v (Value.int IntKind.u8 (((a ++ b ++ c).getD i 0).toNat : Int))) := by
 rw [TE (a ++ b) c, List.length_append]
 split
 ·exact gb a b i
 ·exact zV _
theorem gg (c : UInt8) (b : zj) (i : Nat) : ze (if i < 1 then AV.v (Value.int IntKind.u8 (c.toNat : Int)) else AV.v (Value.int IntKind.u8 ((b.getD (i - 1) 0).toNat : Int))) (AV.v (Value.int IntKind.u8 (((c :: b).getD i 0).toNat : Int))) := by
 match i with
 | 0 => exact zV _
 | i + 1 => rw [if_neg (by omega)]; exact zV _
theorem WK {n : Int} (h0 : 0 ≤ n) (h1 : n < 1000000000) : 1 ≤ (itoa n).length ∧ (itoa n).length ≤ 9 ∧ itoa n = decDigits n.toNat := by
 obtain ⟨m, rfl⟩ : ∃ m : Nat, n = m := ⟨n.toNat, by omega⟩
 have e : itoa (m : Int) = decDigits m := Go.Ar.yx m
 rw [Int.toNat_natCast, e]
 refine ⟨yI m, ?_, rfl⟩
 rw [Lib.decDigits_length]
 exact (z8 (by omega)).2 (by omega)
theorem Na {x : Big} (hx : Zp 1000000000 x.l) (h : 0 < x.l.length) : zg x (x.l.length - 1) = (bif x.neg then [45] else []) ++ itoa (x.l.getD (x.l.length - 1) 0) := by
 have g := hx.get (by omega) (x.l.length - 1)
 rw [(WK g.1 g.2).2.2]
 unfold zg
 rw [oA h]
theorem mC {l : List Int} (hx : Zp 1000000000 l) (ht : zh l = l) {z : Nat} (hz : z < l.length) : wi 1000000000 l z ≠ 0 := by
 have e : l = zT 1000000000 (zU 1000000000 l).toNat := Xb (b := 1000000000) (by omega) hx ht
 have hn : (zU 1000000000 l).toNat ≠ 0 := fun e0 => by
  rw [e0, Z4] at e
  rw [e] at hz
  exact absurd hz (Nat.not_lt_zero _)
 rw [e] at hz ⊢
 exact MC (b := 1000000000) (by omega) hn hz
theorem jz {x : Big} (hx : Zp 1000000000 x.l) (ht : zh x.l = x.l) {z : Nat} (h0 : 0 < z) (h : z < x.l.length) :
  zg x (z - 1) = zg x z ++ List.replicate (9 - ((itoa (x.l.getD (z - 1) 0)).length : Int)).toNat 48 ++ itoa (x.l.getD (z - 1) 0) := by
 have g := hx.get (by omega) (z - 1)
 obtain ⟨g1, g2, g3⟩ := WK g.1 g.2
 have hs := OO (k := 9) (l := x.l) (by omega) hx (i := z - 1) (by omega) (by rw [show z - 1 + 1 = z by omega]; exact mC hx ht h)
 rw [show z - 1 + 1 = z by omega] at hs
 unfold zg
 rw [show decDigits (wi 1000000000 x.l (z - 1)) = decDigits (wi 1000000000 x.l z) ++ U0 9 (x.l.getD (z - 1) 0).toNat from hs]
 unfold U0
 rw [← g3, show (9 - ((itoa (x.l.getD (z - 1) 0)).length : Int)).toNat = 9 - (itoa (x.l.getD (z - 1) 0)).length by omega]
 simp only [List.append_assoc]
theorem IG {x : Big} (hx : Zp 1000000000 x.l) (z : Nat) : (zg x z).length ≤ 9 * x.l.length + 2 := by
 unfold zg
 rw [List.length_append]
 have h1 : (bif x.neg then [(45 : UInt8)] else []).length ≤ 1 := by cases x.neg <;> simp
 have h2 : (decDigits (wi 1000000000 x.l z)).length ≤ 9 * x.l.length + 1 := by
  rw [Lib.decDigits_length]
  refine (z8 (by omega)).2 ?_
  have h3 := YI (b := 1000000000) (by omega) (hx.drop z)
  have h4 := zf (b := 1000000000) (by omega) (hx.drop z)
  unfold wi
  have h5 : (1000000000 : Nat) ^ (x.l.drop z).length ≤ 1000000000 ^ x.l.length := Nat.pow_le_pow_right (by omega) (by simp)
  have h6 : (1000000000 : Nat) ^ x.l.length = 10 ^ (9 * x.l.length) := by rw [Nat.pow_mul]
  have h7 : 10 ^ (9 * x.l.length) ≤ 10 ^ (9 * x.l.length + 1) := Nat.pow_le_pow_right (by omega) (by omega)
  have h8 : (zU 1000000000 (x.l.drop z)).toNat < 1000000000 ^ (x.l.drop z).length := by
   have : ((zU 1000000000 (x.l.drop z)).toNat : Int) < ((1000000000 ^ (x.l.drop z).length : Nat) : Int) := by rw [Int.toNat_of_nonneg h4, Int.natCast_pow]; exact h3
   omega
  exact Nat.lt_of_lt_of_le h8 (by omega)
 omega
theorem ik {x : Big} (hx : Zp 1000000000 x.l) (ht : zh x.l = x.l) (h : 0 < x.l.length) : zg x 0 = itoa (bif x.neg then - zU 1000000000 x.l else zU 1000000000 x.l) ∧ 0 < (zg x 0).length := by
 have hz := mC hx ht h
 have e : wi 1000000000 x.l 0 = (zU 1000000000 x.l).toNat := by unfold wi; rw [List.drop_zero]; rfl
 rw [e] at hz
 unfold zg
 rw [e]
 obtain ⟨n, hn⟩ : ∃ n : Nat, zU 1000000000 x.l = n := ⟨(zU 1000000000 x.l).toNat, by omega⟩
 rw [hn] at hz ⊢
 rw [Int.toNat_natCast] at hz ⊢
 refine ⟨?_, by have := yI n; simp; omega⟩
 cases x.neg with
 | true => exact (Go.Ar.itoa_neg (by omega)).symm
 | false => exact (Go.Ar.yx n).symm
def Uf : List AV → Option (List zN × AV)
 | [x_x] => some ([.b (ym Big x_x), .p (Zp 1000000000 (yp (α := Big) x_x).l), .p (zh (yp (α := Big) x_x).l = (yp (α := Big) x_x).l), .p ((yp (α := Big) x_x).l.length ≤ 100000000)], .str (itoa (bif (yp (α := Big) x_x).neg then - zU 1000000000 (yp (α := Big) x_x).l else zU 1000000000 (yp (α := Big) x_x).l)))
 | _ => none
theorem Ox (G : List (Nat × Obj)) (x : Big) (hx : Zp 1000000000 x.l) (ht : zh x.l = x.l) (hl : x.l.length ≤ 100000000) :
 let q1 := (bif Big.neg x then -zU iB (Big.l x) else zU iB (Big.l x)); let q3 := ((lZ (Big.l x)) - iO); let q2 := (dK q3); let q4 := (leB iZ q3); let q5 := (DB.db (iZ ≤ (lZ (Big.l x)) - iO ∧ (lZ (Big.l x)) - iO < (lZ (Big.l x)))); let q7 := (Int.toNat q3); let q6 := (iN ≤ gD (Big.l x) q7 zr.dflt ∧ gD (Big.l x) q7 zr.dflt ≤ iX); let q8 := (zG q3 q3); let q12 := (itoa
 (gD (Big.l x) q7 zr.dflt)); let q11 := (lZ q12); let q10 := ((9 : Int) - q11); let q9 := (dK q10); let q13 := (iZ ≤ (9 : Int) - q11 ∧ (9 : Int) - q11 ≤ (14 : Int)); let q15 := (List.replicate (Int.toNat q10) (48 : UInt8)); let q14 := (1 + lN q15); let q16 := (dK ((lZ (Big.l x)) - iO - iO)); let q18 := (xI (Big.l x)); let q17 := (143 = 143 ∧ 2 = 2 ∧ Big.neg x = Big.neg x ∧ ze q18 q18); ZY [AV.agg 2
 (zr.enc x)] → zZ ((lZ (Big.l x)) == iZ) (bA #[(48 : UInt8)] = itoa q1) (zZ (Big.neg x) (bF q2 (zZ q4 (bF q5 (q6 ∧ bF q2 (zZ q8 (bF q9 (q13 ∧ bF (DB.db (q14 * 1 ≤ 140737488355328)) (bF (DB.db ((1 + lN q15 + lN q12) * 1 ≤ 140737488355328)) (bF q16 ((∃ (z : Nat), ((z < lN (Big.l x) ∧ z < lN (Big.l x) + 1) ∧ nat_lit 4 = 4 ∧ (nat_lit 3 = 3 ∧ 0 = 0) ∧ kI ∧ (lZ (Big.l x)) - iO - iO = (cI z) - iO) ∧
 ((((((q17 ∧ 210 = 210 ∧ 2 = 2 ∧ (1 = 1 ∧ 0 = 0) ∧ nat_lit 7 = 7 ∧ 0 = 0 ∧ lN (zg x z) = 1 + lN q15 + lN q12) ∧ True) ∧ 141 = 141 ∧ 1 = 1 ∧ ze q18 q18) ∧ lR) ∧ True) ∧ True) ∧ (5 : TypeId) = 5 ∧ 1 = 1 ∧ lN (zg x z) = 1 + lN q15 + lN q12 ∧ ∀ (i j : Nat), i < 1 + lN q15 + lN q12 → j < 1 → ze (if i < 1 + lN q15 then if i < 1 then Sx.rowAt [fun (x : Nat) => AV.v (Value.int IntKind.u8 (45 : Int))] i j else a8 (gD q15
 (i - 1) (0 : UInt8)) else a8 (gD q12 (i - q14) (0 : UInt8))) (a8 (gD (zg x z) i (0 : UInt8)))) ∧ ∀ (z : Nat), let q21 := (itoa (gD (Big.l x) (Int.toNat ((cI z) - iO)) zr.dflt)); let q20 := (lZ q21); let q19 := ((9 : Int) - q20); let q23 := (List.replicate (Int.toNat q19) (48 : UInt8)); let q22 := (lN (zg x z) + lN q23); let q24 := (dK ((cI z) - iO - iO)); z < lN (Big.l x) →
 zZ (leB iZ ((cI z) - iO)) (bF (DB.db (iZ ≤ (cI z) - iO ∧ (cI z) - iO < (lZ (Big.l x)))) ((iN ≤ gD (Big.l x) (Int.toNat ((cI z) - iO)) zr.dflt ∧ gD (Big.l x) (Int.toNat ((cI z) - iO)) zr.dflt ≤ iX) ∧ bF q2 (zZ (zG ((cI z) - iO) q3) (bF (dK q19) ((iZ ≤ (9 : Int) - q20 ∧ (9 : Int) - q20 ≤ (14 : Int)) ∧ bF (DB.db (q22 * 1 ≤ 140737488355328)) (bF (DB.db ((lN (zg x z) +
 lN q23 + lN q21) * 1 ≤ 140737488355328)) (bF q24 (∃ (z' : Nat), ((z' < lN (Big.l x) ∧ z' < z) ∧ nat_lit 4 = 4 ∧ (nat_lit 3 = 3 ∧ 0 = 0) ∧ kI ∧ (cI z) - iO - iO = (cI z') - iO) ∧ ((((((q17 ∧ 210 = 210 ∧ 2 = 2 ∧ (1 = 1 ∧ 0 = 0) ∧ nat_lit 7 = 7 ∧ 0 = 0 ∧ lN (zg x z') = lN (zg x z) + lN q23 + lN q21) ∧ True) ∧ 141 = 141 ∧ 1 = 1 ∧ ze q18 q18) ∧ lR) ∧ True) ∧ True) ∧ (5 : TypeId) = 5 ∧ 1 = 1 ∧ lN (zg x z') = List.length
 (zg x z) + lN q23 + lN q21 ∧ ∀ (i j : Nat), i < lN (zg x z) + lN q23 + lN q21 → j < 1 → ze (if i < lN (zg x z) + lN q23 then if i < lN (zg x z) then a8 (gD (zg x z) i (0 : UInt8)) else a8 (gD q23 (i - lN (zg x z)) (0 : UInt8)) else a8 (gD q21 (i - q22) (0 : UInt8))) (a8 (gD (zg x z') i (0 :
 UInt8)))))))) (bF (DB.db ((lN (zg x z) + lN q21) * 1 ≤ 140737488355328)) (bF q24 (∃ (z' : Nat), ((z' < lN (Big.l x) ∧ z' < z) ∧ nat_lit 4 = 4 ∧ (nat_lit 3 = 3 ∧ 0 = 0) ∧ kI ∧ (cI z) - iO - iO = (cI z') - iO) ∧ ((((((q17 ∧ 210 = 210 ∧ 2 = 2 ∧ (1 = 1 ∧ 0 = 0) ∧ nat_lit 7 = 7 ∧ 0 = 0 ∧ lN (zg x z') = lN (zg x z) + lN q21) ∧ True) ∧ 141 = 141 ∧ 1 = 1 ∧ ze q18 q18) ∧ lR) ∧ True) ∧ True) ∧ (5 : TypeId) =
 5 ∧ 1 = 1 ∧ lN (zg x z') = lN (zg x z) + lN q21 ∧ ∀ (i j : Nat), i < lN (zg x z) + lN q21 → j < 1 → ze (if i < lN (zg x z) then a8 (gD (zg x z) i (0 : UInt8)) else a8 (gD q21 (i - lN (zg x z)) (0 : UInt8))) (a8 (gD (zg x z') i (0 : UInt8))))))))) (0 < lN (zg x z) ∧ ∃ (l : List UInt8), lN l = lN (zg x
 z) ∧ (∀ (i : Nat), i < lN (zg x z) → a8 (gD (zg x z) i (0 : UInt8)) = a8 (gD l i (0 : UInt8))) ∧ l = itoa q1)))))) (zZ (DB.db ((1 + lN q12) * 1 ≤ 140737488355328)) (bF q16 ((∃ (z : Nat), ((z < lN (Big.l x) ∧ z < lN (Big.l x) + 1) ∧ nat_lit 4 = 4 ∧ (nat_lit 3 = 3 ∧ 0 = 0) ∧ kI ∧ (lZ (Big.l x)) - iO - iO = (cI z) - iO) ∧ (((((q17 ∧ 210 = 210 ∧ 2 = 2 ∧ (1 = 1 ∧
 0 = 0) ∧ nat_lit 6 = 6 ∧ 0 = 0 ∧ lN (zg x z) = 1 + lN q12) ∧ True) ∧ 141 = 141 ∧ 1 = 1 ∧ ze q18 q18) ∧ lR) ∧ True) ∧ (5 : TypeId) = 5 ∧ 1 = 1 ∧ lN (zg x z) = 1 + lN q12 ∧ ∀ (i j : Nat), i < 1 + lN q12 → j < 1 → ze (if i < 1 then Sx.rowAt [fun (x : Nat) => AV.v (Value.int IntKind.u8 (45 : Int))] i j else a8 (gD q12 (i - 1) (0 : UInt8))) (a8 (gD (zg x z) i (0 : UInt8)))) ∧ ∀ (z :
 Nat), let q27 := (itoa (gD (Big.l x) (Int.toNat ((cI z) - iO)) zr.dflt)); let q26 := (lZ q27); let q25 := ((9 : Int) - q26); let q29 := (List.replicate (Int.toNat q25) (48 : UInt8)); let q28 := (lN (zg x z) + lN q29); let q30 := (dK ((cI z) - iO - iO)); z < lN (Big.l x) → zZ (leB iZ ((cI z) - iO)) (bF (DB.db (iZ ≤ (cI z) - iO ∧ (cI z) - iO < (lZ (Big.l x)))) ((iN ≤ gD (Big.l x) (Int.toNat ((↑z
 : Int) - iO)) zr.dflt ∧ gD (Big.l x) (Int.toNat ((cI z) - iO)) zr.dflt ≤ iX) ∧ bF q2 (zZ (zG ((cI z) - iO) q3) (bF (dK q25) ((iZ ≤ (9 : Int) - q26 ∧ (9 : Int) - q26 ≤ (14 : Int)) ∧ bF (DB.db (q28 * 1 ≤ 140737488355328)) (bF (DB.db ((lN (zg x z) + lN q29 + lN q27) * 1 ≤ 140737488355328)) (bF q30 (∃ (z' : Nat), ((z' < lN (Big.l x) ∧ z' < z) ∧ nat_lit 4 = 4 ∧ (nat_lit 3 = 3 ∧ 0 = 0) ∧ kI ∧ (cI z) - iO - iO = (cI z')
 - iO) ∧ (((((q17 ∧ 210 = 210 ∧ 2 = 2 ∧ (1 = 1 ∧ 0 = 0) ∧ nat_lit 6 = 6 ∧ 0 = 0 ∧ lN (zg x z') = lN (zg x z) + lN q29 + lN q27) ∧ True) ∧ 141 = 141 ∧ 1 = 1 ∧ ze q18 q18) ∧ lR) ∧ True) ∧ (5 : TypeId) = 5 ∧ 1 = 1 ∧ lN (zg x z') = lN (zg x z) + lN q29 + lN q27 ∧ ∀ (i j : Nat), i < lN (zg x z) + lN q29 + lN q27 → j < 1 → ze (if i < lN (zg x z) + lN q29 then if i < lN (zg x z) then AV.v (Value.int
 IntKind.u8 (cI (UInt8.toNat (gD (zg x z) i (0 : UInt8))))) else a8 (gD q29 (i - lN (zg x z)) (0 : UInt8)) else a8 (gD q27 (i - q28) (0 : UInt8))) (a8 (gD (zg x z') i (0 : UInt8)))))))) (bF (DB.db ((lN (zg x z) + lN q27) * 1 ≤ 140737488355328)) (bF q30 (∃ (z' : Nat), ((z' < lN (Big.l x) ∧ z' < z) ∧ nat_lit 4 = 4 ∧ (nat_lit 3 = 3 ∧ 0 = 0) ∧
 kI ∧ (cI z) - iO - iO = (cI z') - iO) ∧ (((((q17 ∧ 210 = 210 ∧ 2 = 2 ∧ (1 = 1 ∧ 0 = 0) ∧ nat_lit 6 = 6 ∧ 0 = 0 ∧ lN (zg x z') = lN (zg x z) + lN q27) ∧ True) ∧ 141 = 141 ∧ 1 = 1 ∧ ze q18 q18) ∧ lR) ∧ True) ∧ (5 : TypeId) = 5 ∧ 1 = 1 ∧ lN (zg x z') = lN (zg x z) + lN q27 ∧ ∀ (i j : Nat), i < lN (zg x z) + lN q27 → j < 1 → ze (if i < lN (zg x z) then a8 (List.getD
 (zg x z) i (0 : UInt8)) else a8 (gD q27 (i - lN (zg x z)) (0 : UInt8))) (a8 (gD (zg x z') i (0 : UInt8))))))))) (0 < lN (zg x z) ∧ ∃ (l : List UInt8), lN l = lN (zg x z) ∧ (∀ (i : Nat), i < lN (zg x z) → a8 (gD (zg x z) i (0 : UInt8)) = a8 (gD l i (0 : UInt8))) ∧ l = itoa q1)))
 False)))) (0 < 1 ∧ ∃ (l : List UInt8), lN l = 1 ∧ (∀ (i : Nat), i < 1 → Sx.rowAt [fun (x : Nat) => AV.v (Value.int IntKind.u8 (45 : Int))] i 0 = a8 (gD l i (0 : UInt8))) ∧ l = itoa q1))) (bF q2 (zZ q4 (bF q5 (q6 ∧ bF q2 (zZ q8 (bF q9 (q13 ∧ bF (DB.db (lN q15 * 1 ≤ 140737488355328)) (bF (DB.db ((lN q15 + lN q12) * 1 ≤ 140737488355328)) (bF q16 ((∃ (z : Nat), ((z < lN (Big.l x) ∧ z < lN (Big.l x) + 1) ∧ nat_lit 3 = 3 ∧ (nat_lit 2 = 2 ∧
 0 = 0) ∧ kI ∧ (lZ (Big.l x)) - iO - iO = (cI z) - iO) ∧ (((((q17 ∧ 210 = 210 ∧ 2 = 2 ∧ (1 = 1 ∧ 0 = 0) ∧ nat_lit 6 = 6 ∧ 0 = 0 ∧ lN (zg x z) = lN q15 + lN q12) ∧ 141 = 141 ∧ 1 = 1 ∧ ze q18 q18) ∧ lR) ∧ True) ∧ True) ∧ (5 : TypeId) = 5 ∧ 1 = 1 ∧ lN (zg x z) = lN q15 + lN q12 ∧ ∀ (i j : Nat), i < lN q15 + lN q12 → j < 1 → ze (if i < lN q15 then a8 (gD q15
 i (0 : UInt8)) else a8 (gD q12 (i - lN q15) (0 : UInt8))) (a8 (gD (zg x z) i (0 : UInt8)))) ∧ ∀ (z : Nat), let q33 := (itoa (gD (Big.l x) (Int.toNat ((cI z) - iO)) zr.dflt)); let q32 := (lZ q33); let q31 := ((9 : Int) - q32); let q35 := (List.replicate (Int.toNat q31) (48 : UInt8)); let q34 := (lN (zg x z) + lN q35); let q36 := (dK ((cI z) - iO - iO)); z < lN (Big.l x) →
 zZ (leB iZ ((cI z) - iO)) (bF (DB.db (iZ ≤ (cI z) - iO ∧ (cI z) - iO < (lZ (Big.l x)))) ((iN ≤ gD (Big.l x) (Int.toNat ((cI z) - iO)) zr.dflt ∧ gD (Big.l x) (Int.toNat ((cI z) - iO)) zr.dflt ≤ iX) ∧ bF q2 (zZ (zG ((cI z) - iO) q3) (bF (dK q31) ((iZ ≤ (9 : Int) - q32 ∧ (9 : Int) - q32 ≤ (14 : Int)) ∧ bF (DB.db (q34 * 1 ≤ 140737488355328)) (bF (DB.db ((lN (zg x z) +
 lN q35 + lN q33) * 1 ≤ 140737488355328)) (bF q36 (∃ (z' : Nat), ((z' < lN (Big.l x) ∧ z' < z) ∧ nat_lit 3 = 3 ∧ (nat_lit 2 = 2 ∧ 0 = 0) ∧ kI ∧ (cI z) - iO - iO = (cI z') - iO) ∧ (((((q17 ∧ 210 = 210 ∧ 2 = 2 ∧ (1 = 1 ∧ 0 = 0) ∧ nat_lit 6 = 6 ∧ 0 = 0 ∧ lN (zg x z') = lN (zg x z) + lN q35 + lN q33) ∧ 141 = 141 ∧ 1 = 1 ∧ ze q18 q18) ∧ lR) ∧ True) ∧ True) ∧ (5 : TypeId) = 5 ∧ 1 = 1 ∧ lN (zg x z') = lN (zg x z)
 + lN q35 + lN q33 ∧ ∀ (i j : Nat), i < lN (zg x z) + lN q35 + lN q33 → j < 1 → ze (if i < lN (zg x z) + lN q35 then if i < lN (zg x z) then a8 (gD (zg x z) i (0 : UInt8)) else a8 (gD q35 (i - lN (zg x z)) (0 : UInt8)) else a8 (gD q33 (i - q34) (0 : UInt8))) (AV.v (Value.int IntKind.u8 (↑(UInt8.toNat (gD (zg x z') i (0 : UInt8))) :
 Int)))))))) (bF (DB.db ((lN (zg x z) + lN q33) * 1 ≤ 140737488355328)) (bF q36 (∃ (z' : Nat), ((z' < lN (Big.l x) ∧ z' < z) ∧ nat_lit 3 = 3 ∧ (nat_lit 2 = 2 ∧ 0 = 0) ∧ kI ∧ (cI z) - iO - iO = (cI z') - iO) ∧ (((((q17 ∧ 210 = 210 ∧ 2 = 2 ∧ (1 = 1 ∧ 0 = 0) ∧ nat_lit 6 = 6 ∧ 0 = 0 ∧ lN (zg x z') = lN (zg x z) + lN q33) ∧ 141 = 141 ∧ 1 = 1 ∧ ze q18 q18) ∧ lR) ∧ True) ∧ True) ∧ (5 : TypeId) = 5 ∧ 1 = 1 ∧
 lN (zg x z') = lN (zg x z) + lN q33 ∧ ∀ (i j : Nat), i < lN (zg x z) + lN q33 → j < 1 → ze (if i < lN (zg x z) then a8 (gD (zg x z) i (0 : UInt8)) else a8 (gD q33 (i - lN (zg x z)) (0 : UInt8))) (a8 (gD (zg x z') i (0 : UInt8))))))))) (0 < lN (zg x z) ∧ ∃ (l : List UInt8), lN l = lN (zg x z) ∧ (∀ (i :
 Nat), i < lN (zg x z) → a8 (gD (zg x z) i (0 : UInt8)) = a8 (gD l i (0 : UInt8))) ∧ l = itoa q1)))))) (bF (DB.db (lN q12 * 1 ≤ 140737488355328)) (bF q16 ((∃ (z : Nat), ((z < lN (Big.l x) ∧ z < lN (Big.l x) + 1) ∧ nat_lit 3 = 3 ∧ (nat_lit 2 = 2 ∧ 0 = 0) ∧ kI ∧ (lZ (Big.l x)) - iO - iO = (cI z) - iO) ∧ ((((q17 ∧ 210 = 210 ∧ 2 = 2 ∧ (1 = 1 ∧ 0 = 0) ∧ nat_lit 5
 = 5 ∧ 0 = 0 ∧ lN (zg x z) = lN q12) ∧ 141 = 141 ∧ 1 = 1 ∧ ze q18 q18) ∧ lR) ∧ True) ∧ (5 : TypeId) = 5 ∧ 1 = 1 ∧ lN (zg x z) = lN q12 ∧ ∀ (i j : Nat), i < lN q12 → j < 1 → IntKind.u8 = IntKind.u8 ∧ (cI (UInt8.toNat (gD q12 i (0 : UInt8)))) = (cI (UInt8.toNat (gD (zg x z) i (0 : UInt8))))) ∧ ∀ (z : Nat), let q39 := (itoa (gD (Big.l x) (Int.toNat ((cI z) - iO)) zr.dflt)); let q38 := (lZ q39); let q37 := ((9 : Int) - q38); let q41 :=
 (List.replicate (Int.toNat q37) (48 : UInt8)); let q40 := (lN (zg x z) + lN q41); let q42 := (dK ((cI z) - iO - iO)); z < lN (Big.l x) → zZ (leB iZ ((cI z) - iO)) (bF (DB.db (iZ ≤ (cI z) - iO ∧ (cI z) - iO < (lZ (Big.l x)))) ((iN ≤ gD (Big.l x) (Int.toNat ((cI z) - iO)) zr.dflt ∧ gD (Big.l x) (Int.toNat ((cI z) - iO)) zr.dflt ≤ iX) ∧ bF q2 (zZ (zG ((cI z) - (1 :
 Int)) q3) (bF (dK q37) ((iZ ≤ (9 : Int) - q38 ∧ (9 : Int) - q38 ≤ (14 : Int)) ∧ bF (DB.db (q40 * 1 ≤ 140737488355328)) (bF (DB.db ((lN (zg x z) + lN q41 + lN q39) * 1 ≤ 140737488355328)) (bF q42 (∃ (z' : Nat), ((z' < lN (Big.l x) ∧ z' < z) ∧ nat_lit 3 = 3 ∧ (nat_lit 2 = 2 ∧ 0 = 0) ∧ kI ∧ (cI z) - iO - iO = (cI z') - iO) ∧ ((((q17 ∧ 210 = 210 ∧ 2 = 2 ∧ (1 = 1 ∧ 0 = 0) ∧ nat_lit 5 = 5 ∧ 0 = 0 ∧ lN (zg x z') = lN (zg x z) + lN q41 + lN q39)
 ∧ 141 = 141 ∧ 1 = 1 ∧ ze q18 q18) ∧ lR) ∧ True) ∧ (5 : TypeId) = 5 ∧ 1 = 1 ∧ lN (zg x z') = lN (zg x z) + lN q41 + lN q39 ∧ ∀ (i j : Nat), i < lN (zg x z) + lN q41 + lN q39 → j < 1 → ze (if i < lN (zg x z) + lN q41 then if i < lN (zg x z) then a8 (gD (zg x z) i (0 : UInt8)) else a8 (gD q41 (i - lN (zg x z)) (0 : UInt8))
 else a8 (gD q39 (i - q40) (0 : UInt8))) (a8 (gD (zg x z') i (0 : UInt8)))))))) (bF (DB.db ((lN (zg x z) + lN q39) * 1 ≤ 140737488355328)) (bF q42 (∃ (z' : Nat), ((z' < lN (Big.l x) ∧ z' < z) ∧ nat_lit 3 = 3 ∧ (nat_lit 2 = 2 ∧ 0 = 0) ∧ kI ∧ (cI z) - iO - iO = (cI z') - iO) ∧ ((((q17 ∧ 210 = 210 ∧ 2 = 2 ∧ (1 = 1 ∧ 0 = 0) ∧ nat_lit 5 = 5 ∧ 0 = 0 ∧ lN (zg x z') =
 lN (zg x z) + lN q39) ∧ 141 = 141 ∧ 1 = 1 ∧ ze q18 q18) ∧ lR) ∧ True) ∧ (5 : TypeId) = 5 ∧ 1 = 1 ∧ lN (zg x z') = lN (zg x z) + lN q39 ∧ ∀ (i j : Nat), i < lN (zg x z) + lN q39 → j < 1 → ze (if i < lN (zg x z) then a8 (gD (zg x z) i (0 : UInt8)) else a8 (gD q39 (i - lN (zg x z)) (0 : UInt8))) (AV.v (Value.int IntKind.u8 (cI (UInt8.toNat
 (gD (zg x z') i (0 : UInt8)))))))))))) (0 < lN (zg x z) ∧ ∃ (l : List UInt8), lN l = lN (zg x z) ∧ (∀ (i : Nat), i < lN (zg x z) → a8 (gD (zg x z) i (0 : UInt8)) = a8 (gD l i (0 : UInt8))) ∧ l = itoa q1))))))) ([] = itoa q1)))) := by
 delta bF dK bA a8 xI lR cI kI lZ lN gD iZ iO iX iN iB
 dsimp only
 intro hb
 have e0 : (zr.dflt : Int) = 0 := rfl
 simp only [↓yq, ↓ZE, row_one]
 simp only [sS, dS, e0]
 refine ⟨fun hz => ?_, fun hz => ?_⟩
 ·have he : x.l = [] := List.eq_nil_of_length_eq_zero (by omega)
  rw [he]
  have : itoa ((0 : Nat) : Int) = [48] := by rw [Go.Ar.yx, z6 (by omega)]; rfl
  cases x.neg <;> exact this.symm
 have h0 : 0 < x.l.length := by omega
 have en : ((x.l.length : Int) - 1).toNat = x.l.length - 1 := by omega
 have ez : ∀ z : Nat, ((z : Int) - 1).toNat = z - 1 := fun z => by omega
 simp only [en, ez, Nat.mul_one]
 have gN := hx.get (by omega) (x.l.length - 1)
 obtain ⟨i1, i2, i3⟩ := WK gN.1 gN.2
 have f1 := Na hx h0
 refine zX.2 ⟨fun c => ⟨⟨by omega, by omega⟩, fun _ => ⟨⟨by omega, by omega⟩, ⟨by omega, by omega⟩, ⟨by omega, by omega⟩, fun h => absurd h (by omega), fun _ => ⟨by omega, ⟨by omega, by omega⟩, ⟨x.l.length - 1, ⟨⟨by omega, by omega⟩, by omega⟩, ?_, ?_, fun i j _ _ => ?_⟩, ?_⟩⟩, fun h => absurd h (by omega)⟩,
  fun c => ⟨⟨by omega, by omega⟩, fun _ => ⟨⟨by omega, by omega⟩, ⟨by omega, by omega⟩, ⟨by omega, by omega⟩, fun h => absurd h (by omega), fun _ => ⟨by omega, ⟨by omega, by omega⟩, ⟨x.l.length - 1, ⟨⟨by omega, by omega⟩, by omega⟩, ?_, ?_, fun i j _ _ => ?_⟩, ?_⟩⟩, fun h => absurd h (by omega)⟩⟩
 all_goals try rw [c] at f1
 ·rw [f1]; simp only [cond_true, List.length_append, List.length_singleton]
 ·rw [f1]; simp only [cond_true, List.length_append, List.length_singleton]
 ·rw [f1]; exact gg 45 _ i
 rotate_left
 ·rw [f1]; rfl
 ·rw [f1]; rfl
 ·rw [f1]; rfl
 all_goals
  intro z hz1
  have wl := IG hx z
  refine ⟨fun hz2 => ?_, fun hz2 => ?_⟩
  ·have g := hx.get (by omega) (z - 1)
   obtain ⟨g1, g2, g3⟩ := WK g.1 g.2
   have hs := jz hx ht (z := z) (by omega) hz1
   have lr : (List.replicate (9 - ((itoa (x.l.getD (z - 1) 0)).length : Int)).toNat (48 : UInt8)).length ≤ 8 := by rw [List.length_replicate]; omega
   refine ⟨⟨by omega, by omega⟩, ⟨by omega, by omega⟩, ⟨by omega, by omega⟩, fun _ => ⟨⟨by omega, by omega⟩, ⟨by omega, by omega⟩, by omega, by omega, ⟨by omega, by omega⟩, z - 1, ⟨⟨by omega, by omega⟩, by omega⟩, ?_, ?_, fun i j _ _ => ?_⟩, fun h => absurd h (by omega)⟩
   ·rw [hs, List.length_append, List.length_append]
   ·rw [hs, List.length_append, List.length_append]
   ·rw [hs]; exact Gv _ _ _ i
  ·obtain rfl : z = 0 := by omega
   obtain ⟨w1, w2⟩ := ik hx ht h0
   exact ⟨w2, zg x 0, rfl, fun _ _ => rfl, w1⟩
theorem mi {G : List (Nat × Obj)} (hG : zO G) (x : Big) (hx : Zp 1000000000 x.l) (ht : zh x.l = x.l) (hl : x.l.length ≤ 100000000) : zu Tryz.prog G 152 [xZ x] (.str (itoa (bif x.neg then - zU 1000000000 x.l else zU 1000000000 x.l))) :=
 zv (T := GH G) (an := ja x) mixed (OJ hG) (Eq.mp (by kernel_rfl) (Ox G x hx ht hl))
theorem mu {G : List (Nat × Obj)} (hG : zO G) : zP Tryz.prog G 152 Uf := by
 intro xs ps r h hp
 unfold Uf at h
 split at h
 ·skip
  rename_i x_x
  cases h
  obtain ⟨q0, q1, q2, q3, -⟩ := Zo hp
  exact weaken (ys := [xZ (yp (α := Big) x_x)]) ⟨ZS q0, trivial⟩ (mi hG (yp (α := Big) x_x) q1 q2 q3)
 ·cases h
end Go.Te

namespace Go.Te
open Go Go.Sx Go.Proofs Go.Ar
set_option maxRecDepth 100000
set_option maxHeartbeats 4000000
def y6 (n : Bool) (l : List Int) : Int := bif n then - zU 1000000000 l else zU 1000000000 l
theorem MN (x : Big) : yp (AV.agg 2 fun i => zr.enc x i) = x := uc x
theorem Oo (x : Big) : ym Big (AV.agg 2 fun i => zr.enc x i) = true := vP x
theorem MX (n : Int) : (zQ (Lib.itoa n)).length = x9 n := by
 obtain ⟨h1, h2⟩ := zC n
 rw [← (si (Lib.itoa n)).2, wt h1, h2]
def WM : List AV → Option (List zN × AV)
 | [x_x] => some ([.b (ym Big x_x), .p (Zp 1000000000 (yp (α := Big) x_x).l), .p (zh (yp (α := Big) x_x).l = (yp (α := Big) x_x).l), .p ((yp (α := Big) x_x).l.length ≤ 100000000)], .tup 2 (zw [.str (YM (y6 (yp (α := Big) x_x).neg (yp (α := Big) x_x).l)), .i (ZL (y6 (yp (α := Big) x_x).neg (yp (α := Big) x_x).l))]))
 | _ => none
theorem Qm (G : List (Nat × Obj)) (x : Big) (hx : Zp 1000000000 x.l) (ht : zh x.l = x.l) (hl : x.l.length ≤ 100000000) :
 let q1 := (AV.agg 2 fun (i : Nat) => zr.enc x (0 + i)); let q3 := (yp q1); let q2 := (Big.l q3); let q4 := (bif Big.neg q3 then -zU iB q2 else zU iB q2); ZY [AV.agg 2 (zr.enc x)] → bF (ym Big q1) ((∀ (x_1 : Int), List.Mem x_1 q2 → iZ ≤ x_1 ∧ x_1 < iB) ∧ zh q2 = Big.l q3 ∧ lN q2 ≤ 100000000 ∧ zZ (zG (300 : Int) (lZ (zQ (Lib.itoa q4)))) (j2 ∧ (True ∧ bA #[] = YM (y6 (Big.neg x) (Big.l x))) ∧ kI ∧ (4
 : Int) = ZL (y6 (Big.neg x) (Big.l x))) (j2 ∧ (True ∧ Lib.itoa q4 = YM (y6 (Big.neg x) (Big.l x))) ∧ kI ∧ iZ = ZL (y6 (Big.neg x) (Big.l x)))) := by
 delta bF bA kI j2 lZ lN iZ iB
 dsimp only
 intro hb
 have e0 : (zr.dflt : Int) = 0 := rfl
 simp only [↓yq, ↓ZE, row_one]
 simp only [sS, dS, e0, MN, Oo]
 refine ⟨hx, ht, hl, fun h => ?_, fun h => ?_⟩
 all_goals
  have hn := MX (y6 x.neg x.l)
  unfold y6 at hn
  rw [hn] at h
  unfold YM ZL y6
 ·rw [(Zw _ _).2 (show 300 < x9 _ by omega)]
  exact ⟨rfl, rfl, rfl⟩
 ·rw [show Nat.blt 300 (x9 (bif x.neg then - zU 1000000000 x.l else zU 1000000000 x.l)) = false from Bool.eq_false_iff.2 fun e => by have := (Zw _ _).1 e; omega]
  exact ⟨rfl, rfl, rfl⟩
theorem Og {G : List (Nat × Obj)} (hG : zO G) (x : Big) (hx : Zp 1000000000 x.l) (ht : zh x.l = x.l) (hl : x.l.length ≤ 100000000) : zu Tryz.prog G 103 [xZ x] (.tup 2 (zw [.str (YM (y6 x.neg x.l)), .i (ZL (y6 x.neg x.l))])) :=
 zv (T := ((KL G).plus 152 Uf).plus 95 (Yj fun s => .str (zQ s))) (an := .auto) mixed (zz.plus (zz.plus (YD hG) (mu hG)) (zP.mono vO)) (Eq.mp (by kernel_rfl) (Qm G x hx ht hl))
theorem TI {G : List (Nat × Obj)} (hG : zO G) : zP Tryz.prog G 103 WM := by
 intro xs ps r h hp
 unfold WM at h
 split at h
 ·skip
  rename_i x_x
  cases h
  obtain ⟨q0, q1, q2, q3, -⟩ := Zo hp
  exact weaken (ys := [xZ (yp (α := Big) x_x)]) ⟨ZS q0, trivial⟩ (Og hG (yp (α := Big) x_x) q1 q2 q3)
 ·cases h
def Uz (xs : List AV) : Option (List zN × AV) :=
 match sM xs with
 | some r => some r
 | none => SY xs
theorem qe : zP Tryz.prog [] 148 Uz := by
 intro xs ps r h hp
 unfold Uz at h
 split at h
 ·rename_i r' h'
  cases h
  exact Kc _ _ _ h' hp
 ·exact Lm _ _ _ h hp
noncomputable def GC : Tb := (T0.plus 148 Uz).plus 150 tO
theorem oF : zz Tryz.prog GC := zz.plus (zz.plus zq qe) qk
def oZ (x y : Big) : Bool := bif x.neg == y.neg then x.neg else bif leB 0 (cmpL x.l y.l) then x.neg else y.neg
def qR (x y : Big) : Int := bif x.neg == y.neg then zU 1000000000 x.l + zU 1000000000 y.l else bif leB 0 (cmpL x.l y.l) then zU 1000000000 x.l - zU 1000000000 y.l else zU 1000000000 y.l - zU 1000000000 x.l
theorem R7 {x y : List Int} (hx : Zp 1000000000 x) (hy : Zp 1000000000 y) (tx : zh x = x) (ty : zh y = y) : (0 ≤ cmpL x y ↔ zU 1000000000 y ≤ zU 1000000000 x) := by
 have e1 : x = zT 1000000000 (zU 1000000000 x).toNat := Xb (b := 1000000000) (by omega) hx tx
 have e2 : y = zT 1000000000 (zU 1000000000 y).toNat := Xb (b := 1000000000) (by omega) hy ty
 have v1 := zf (b := 1000000000) (by omega) hx
 have v2 := zf (b := 1000000000) (by omega) hy
 have c := (OV (b := 1000000000) (by omega) (zU 1000000000 x).toNat (zU 1000000000 y).toNat).1
 rw [← e1, ← e2] at c
 omega
def QA : List AV → Option (List zN × AV)
 | [x_x, x_y] => some ([.b (ym Big x_x), .b (ym Big x_y), .p (Zp 1000000000 (yp (α := Big) x_x).l), .p (Zp 1000000000 (yp (α := Big) x_y).l), .p (zh (yp (α := Big) x_x).l = (yp (α := Big) x_x).l), .p (zh (yp (α := Big) x_y).l = (yp (α := Big) x_y).l), .p ((yp (α := Big) x_x).l.length ≤ 1000000000), .p ((yp (α := Big) x_y).l.length ≤ 1000000000)], .agg 2 (zw [.b (oZ (yp (α := Big) x_x) (yp (α := Big) x_y)), Z1 (zT 1000000000 (qR (yp (α := Big) x_x) (yp (α := Big) x_y)).toNat)]))
 | _ => none
theorem kv (x : Big) (y : Big) (hx : Zp 1000000000 x.l) (hy : Zp 1000000000 y.l) (tx : zh x.l = x.l) (ty : zh y.l = y.l) (lx : x.l.length ≤ 1000000000) (ly : y.l.length ≤ 1000000000) :
 let q2 := (xI (Big.l x)); let q1 := (ZZ Int q2); let q4 := (xI (Big.l y)); let q3 := (ZZ Int q4); let q6 := (zt q2); let q5 := (∀ (x_1 : Int), List.Mem x_1 q6 → iZ ≤ x_1 ∧ x_1 < iB); let q8 := (zt q4); let q7 := (∀ (x : Int), List.Mem x q8 → iZ ≤ x ∧ x < iB); let q9 := (zT 1000000000 (Int.toNat (qR x y))); let q10 := (zT 1000000000 (Int.toNat (zU
 iB q6 + zU iB q8))); let q11 := (zT 1000000000 (Int.toNat (zU iB q6 - zU iB q8))); let q12 := (zT 1000000000 (Int.toNat (zU iB q8 - zU iB q6))); ZY [AV.agg 2 (zr.enc x), AV.agg 2 (zr.enc y)] → zZ (Big.neg x == Big.neg y) (bF q1 (bF q3 (q5 ∧ q7 ∧ lN q6 ≤ 1000000000 ∧ lN q8 ≤ 1000000000 ∧ 2 = 2 ∧ Big.neg x = oZ x y ∧ (false = true → false = true) ∧ 1 = 1 ∧ lN q9 = lN q10 ∧ ∀ (i j : Nat), i < lN q10 → j < 1 → IntKind.i64 =
 .i64 ∧ gD q10 i zr.dflt = gD q9 i zr.dflt))) (bF q1 (bF q3 (q5 ∧ q7 ∧ zZ (leB iZ (cmpL q6 q8)) (bF q1 (bF q3 (q5 ∧ q7 ∧ lN q6 ≤ 1000000000 ∧ lN q8 ≤ 1000000000 ∧ zU iB q8 ≤ zU iB q6 ∧ 2 = 2 ∧ Big.neg x = oZ x y ∧ (false = true → false = true) ∧ 1 = 1 ∧ lN q9 = lN q11 ∧ ∀ (i j : Nat), i < lN q11 → j < 1 → kI ∧ gD q11 i zr.dflt = gD q9 i zr.dflt))) (bF q3 (bF q1 (q7 ∧ q5 ∧ lN q8 ≤ 1000000000 ∧
 lN q6 ≤ 1000000000 ∧ zU iB q6 ≤ zU iB q8 ∧ 2 = 2 ∧ Big.neg y = oZ x y ∧ (false = true → false = true) ∧ 1 = 1 ∧ lN q9 = lN q12 ∧ ∀ (i j : Nat), i < lN q12 → j < 1 → kI ∧ gD q12 i zr.dflt = gD q9 i zr.dflt)))))) := by
 delta bF xI kI lN gD iZ iB
 dsimp only
 intro hb
 have e0 : (zr.dflt : Int) = 0 := rfl
 simp only [↓yq, ↓ZE, row_one]
 simp only [sS, dS, e0]
 refine zX.2 ⟨fun c => ⟨hx, hy, lx, ly, ?_, fun h => h, ?_, fun i j _ _ => ?_⟩, fun c => ⟨hx, hy, fun h => ⟨hx, hy, lx, ly, (R7 hx hy tx ty).1 h, ?_, fun h => h, ?_, fun i j _ _ => ?_⟩, fun h => ⟨hy, hx, ly, lx, ?_, ?_, fun h => h, ?_, fun i j _ _ => ?_⟩⟩⟩
 any_goals (unfold oZ; rw [c]; first | rfl | (rw [show leB 0 (cmpL x.l y.l) = true from (Zx _ _).2 h]; rfl) | (rw [show leB 0 (cmpL x.l y.l) = false from Bool.eq_false_iff.2 fun e => by have := (Zx _ _).1 e; omega]; rfl))
 any_goals (unfold qR; rw [c]; first | rfl | (rw [show leB 0 (cmpL x.l y.l) = true from (Zx _ _).2 h]; rfl) | (rw [show leB 0 (cmpL x.l y.l) = false from Bool.eq_false_iff.2 fun e => by have := (Zx _ _).1 e; omega]; rfl))
 have := R7 hx hy tx ty
 omega
theorem JC (x : Big) (y : Big) (hx : Zp 1000000000 x.l) (hy : Zp 1000000000 y.l) (tx : zh x.l = x.l) (ty : zh y.l = y.l) (lx : x.l.length ≤ 1000000000) (ly : y.l.length ≤ 1000000000) : zu Tryz.prog [] 100 [xZ x, xZ y] (.agg 2 (zw [.b (oZ x y), Z1 (zT 1000000000 (qR x y).toNat)])) :=
 zv (T := GC) (an := .auto) mixed oF (Eq.mp (by kernel_rfl) (kv x y hx hy tx ty lx ly))
theorem IZ : zP Tryz.prog [] 100 QA := by
 intro xs ps r h hp
 unfold QA at h
 split at h
 ·skip
  rename_i x_x x_y
  cases h
  obtain ⟨q0, q1, q2, q3, q4, q5, q6, q7, -⟩ := Zo hp
  exact weaken (ys := [xZ (yp (α := Big) x_x), xZ (yp (α := Big) x_y)]) ⟨ZS q0, ZS q1, trivial⟩ (JC (yp (α := Big) x_x) (yp (α := Big) x_y) q2 q3 q4 q5 q6 q7)
 ·cases h
theorem nO {x y : Big} (hx : Zp 1000000000 x.l) (hy : Zp 1000000000 y.l) (tx : zh x.l = x.l) (ty : zh y.l = y.l) :
  0 ≤ qR x y ∧ (bif oZ x y then - qR x y else qR x y) = y6 x.neg x.l + y6 y.neg y.l := by
 have v1 := zf (b := 1000000000) (by omega) hx
 have v2 := zf (b := 1000000000) (by omega) hy
 have c := R7 hx hy tx ty
 unfold oZ qR y6
 cases hl : leB 0 (cmpL x.l y.l) with
 | true =>
  rw [Zx, c] at hl
  cases x.neg <;> cases y.neg <;> simp <;> omega
 | false =>
  have hl : ¬ 0 ≤ cmpL x.l y.l := fun e => by rw [(Zx _ _).2 e] at hl; cases hl
  rw [c] at hl
  cases x.neg <;> cases y.neg <;> simp <;> omega
end Go.Te

namespace Go.Te
open Go Go.Sx Go.Proofs Go.Ar
set_option maxRecDepth 100000
set_option maxHeartbeats 4000000
def Zi : OB → List Int
 | .arr _ _ n els => (List.range n).map fun i => AV.int (els i 0)
 | _ => []
theorem Gs (l : List Int) : Zi (OB.arr 3 1 l.length fun i x => AV.v (Value.int IntKind.i64 (l.getD i 0))) = l := by
 have e : ((List.range l.length).map fun i => l.getD i 0) = l := by
  apply List.ext_getElem
  ·simp
  ·intro i h1 h2
   rw [List.getElem_map, List.getElem_range, List.getD_eq_getElem?_getD, List.getElem?_eq_getElem h2]
   rfl
 exact e
def T3  : yQ :=
 .two .auto (.two (.one (.loop Nat (fun σ z => [(0, .ns (YN (σ.tm 0)) 0 z)]) (fun σ z => []) 0 (fun σ z => z ≤ (Zi (σ.bl (YN (σ.tm 0)))).length ∧ ∀ i, z ≤ i → (Zi (σ.bl (YN (σ.tm 0)))).getD i 0 = 0) (fun σ z => z) .auto)) .auto)
theorem T2 {l : List Int} {z : Nat} (h1 : z ≤ l.length) (h2 : ∀ i, z ≤ i → l.getD i 0 = 0) (c : (zG 0 (z : Int) && l.getD ((z : Int) - 1).toNat 0 == 0) = false) : zh l = l.take z := by
 refine We h1 h2 ?_
 by_cases hz : z = 0
 ·exact .inl hz
 ·refine .inr fun e => ?_
  rw [(zp _ _).2 (by omega), show ((z : Int) - 1).toNat = z - 1 by omega, e] at c
  cases c
theorem Tc {l : List Int} {z : Nat} (h2 : ∀ i, z ≤ i → l.getD i 0 = 0) (c : (zG 0 (z : Int) && l.getD ((z : Int) - 1).toNat 0 == 0) = true) : 0 < z ∧ ∀ i, z - 1 ≤ i → l.getD i 0 = 0 := by
 rw [Bool.and_eq_true, beq_iff_eq, zp] at c
 have c2 := c.2
 rw [show ((z : Int) - 1).toNat = z - 1 by omega] at c2
 refine ⟨by omega, fun i hi => ?_⟩
 by_cases e : i = z - 1
 ·rw [e]; exact c2
 ·exact h2 i (by omega)
theorem G6 {l m : List Int} {z : Nat} (hz : z ≤ m.length) (h : m.take z = l) : ze (AV.xl false 1 z fun i x => AV.v (Value.int IntKind.i64 (m.getD i 0))) (AV.xl false 1 l.length fun i j => AV.v (Value.int IntKind.i64 (l.getD i 0))) := by
 have hl : z = l.length := by rw [← h, List.length_take]; omega
 rw [← hl]
 refine ⟨fun h => h, rfl, rfl, fun i j hi _ => ?_⟩
 rw [← h]
 show ze (AV.v (Value.int IntKind.i64 (m.getD i 0))) (AV.v (Value.int IntKind.i64 ((m.take z).getD i 0)))
 rw [Yg hi]
 exact zV _
noncomputable def GN : Tb := (T0.plus 147 WQ).body Tryz.prog [(177, .auto), (147, T3)]
theorem OR : zz Tryz.prog GN := zz.body mixed (zz.plus zq uJ) _
structure Yc where
 z : Nat
 q : List Int
 r : Int
def Ik (a : List Int) (d : Int) : yQ :=
 .two .auto (.one (.loop Yc (fun σ z => [(0, σ.tm 0), (1, σ.tm 1), (3, .i ((z.z : Int) - 1))]) (fun _ z => [(2, tI z.q), (3, .box 3 1 fun _ => .i z.r)]) 0
  (fun _ z => OG 1000000000 d a z.z z.q z.r) (fun _ z => z.z) .auto))
def iJ (a : List Int) (d : Int) : yQ :=
 .two .auto (.two .auto (.two .auto (.two (.two .auto (.one (.range (Ik a d) .auto .auto))) .auto)))
def rO : List AV → Option (List zN × AV)
 | [x_a, .v (.int .i64 d)] => some ([.b (ZZ Int x_a), .p (Zp 1000000000 (zt x_a)), .p (0 < d ∧ d ≤ 1000000000), .p ((zt x_a).length ≤ 1000000000)], .tup 2 (zw [Z1 (zT 1000000000 ((zU 1000000000 (zt x_a)).toNat / d.toNat)), Z1 (zT 1000000000 ((zU 1000000000 (zt x_a)).toNat % d.toNat))]))
 | _ => none
theorem NJ (a : List Int) (d : Int) (ha : Zp 1000000000 a) (hd : 0 < d ∧ d ≤ 1000000000) (hl : a.length ≤ 1000000000) :
 let q1 := ((3 = 3 ∧ 1 = 1 ∧ kI ∧ d = d) ∧ 141 = 141 ∧ 1 = 1 ∧ nat_lit 2 = 2 ∧ 0 = 0 ∧ Int.toNat (lZ a) = Int.toNat (lZ a)); let q2 := (xI a); let q13 := (zT 1000000000 (Int.toNat (zU iB a) / Int.toNat d)); let q12 := (xI q13); let q17 := (zT 1000000000 (Int.toNat (zU iB a) % Int.toNat d)); let q16 := (AV.xl false 1 (lN q17) fun
 i j => aI (gD q17 i zr.dflt)); ZY [xI a, aI d] → bF (DB.db (iZ ≤ (lZ a) ∧ (lZ a) ≤ (lZ a) ∧ (↑8 : Int) * (lZ a) ≤ (140737488355328 : Int))) (bF (dK ((lZ a) - iO)) ((∃ (z : Yc), (OG iB d a (Yc.z z) (Yc.q z) (Yc.r z) ∧ nat_lit 5 = 5 ∧ (nat_lit 4 = 4 ∧ 0 = 0) ∧ kI ∧ (lZ a) - iO =
 (cI (Yc.z z)) - iO) ∧ (((q1 ∧ (3 : TypeId) = 3 ∧ 1 = 1 ∧ lN (Yc.q z) = Int.toNat (lZ a) ∧ ∀ (i j : Nat), i < Int.toNat (lZ a) → j < 1 → ze (Z5 (Value.int .i64 iZ) j) (aI (gD (Yc.q z) i iZ))) ∧ (3 : TypeId) = 3 ∧ 1 = 1 ∧ kI ∧ iZ = Yc.r z) ∧ 141 = 141 ∧ 1 = 1 ∧ ze q2 q2) ∧ lR) ∧ ∀ (z : Yc), let q3 := (gD a (Int.toNat ((cI (Yc.z z)) - iO)) zr.dflt + Yc.r z * iB); let q4 := (Int.tdiv
 q3 d); let q6 := (bF (dK ((cI (Yc.z z)) - iO - iO)) (∃ (z' : Yc), ((OG iB d a (Yc.z z') (Yc.q z') (Yc.r z') ∧ Yc.z z' < Yc.z z) ∧ nat_lit 5 = 5 ∧ (nat_lit 4 = 4 ∧ 0 = 0) ∧ kI ∧ (cI (Yc.z z)) - iO - iO = (cI (Yc.z z')) - iO) ∧ (((q1 ∧ 3 = 3 ∧ 1 = 1 ∧ lN (Yc.q z') = lN (Yc.q z) ∧ ∀ (i j : Nat), i < lN (Yc.q z) → j < 1 → ze (if i = 0 + Int.toNat ((cI (Yc.z z)) - iO) ∧ 0 ≤ j ∧ j < 1 then aI q4 else aI (List.getD
 (Yc.q z) i iZ)) (aI (gD (Yc.q z') i iZ))) ∧ 3 = 3 ∧ 1 = 1 ∧ kI ∧ Int.tmod q3 d = Yc.r z') ∧ 141 = 141 ∧ 1 = 1 ∧ ze q2 q2) ∧ lR)); let q5 := ((bF (DB.db (d ≠ iZ)) q6 ∧ bF (DB.db (d ≠ iZ)) q6) ∧ bF (DB.db (d ≠ iZ)) q6); let q9 := (Zi (OB.arr (3 : TypeId) 1 (lN (Yc.q z)) fun (i x : Nat) => aI (gD (Yc.q z) i iZ))); let q10 := (((q1 ∧ 3 = 3 ∧ 1 = 1 ∧ lN (Yc.q z) =
 lN (Yc.q z) ∧ ∀ (i j : Nat), i < lN (Yc.q z) → j < 1 → kI ∧ gD (Yc.q z) i iZ = gD (Yc.q z) i iZ) ∧ 3 = 3 ∧ 1 = 1 ∧ kI ∧ Yc.r z = Yc.r z) ∧ 141 = 141 ∧ 1 = 1 ∧ ze q2 q2); let q8 := (∃ (z_1 : Nat), ((z_1 ≤ lN q9 ∧ ∀ (i : Nat), z_1 ≤ i → gD (Zi (OB.arr (3 : TypeId) 1 (lN (Yc.q z)) fun (i x : Nat) => aI (gD (Yc.q z) i iZ))) i iZ = iZ) ∧ nat_lit 2 = 2 ∧ 0 = 0 ∧ z_1 = Int.toNat (lZ a)) ∧ q10 ∧ True); let q15 := (zh
 (zt (AV.xl true 1 1 (Sx.rowAt [fun (x : Nat) => aI (Yc.r z)])))); let q14 := (xI q15); let q7 := (q8 ∧ ∀ (z_1 : Nat), let q11 := (!zR true (zG iZ (cI z_1)) || zR true (zG iZ (cI z_1))); (z_1 ≤ lN q9 ∧ ∀ (i : Nat), z_1 ≤ i → gD (Zi (OB.arr (3 : TypeId) 1 (lN (Yc.q z)) fun (i x : Nat) => aI (gD (Yc.q z) i iZ))) i iZ = iZ) → bF q11 (bF q11 (bF (!zR true (zG iZ
 (cI z_1)) || dK ((cI z_1) - iO)) (bF q11 (bF q11 (bF (!zR true (zG iZ (cI z_1)) || DB.db (iZ ≤ (cI z_1) - iO ∧ (cI z_1) - iO < (cI z_1))) (bF q11 (bF q11 (bF (!zG iZ (cI z_1) || zR true (zG iZ (cI z_1))) (zZ (bif zG iZ (cI z_1) then gD (Yc.q z) (0 + Int.toNat ((cI z_1) - iO)) iZ == iZ else false) (bF (dK ((cI z_1) - iO)) (bF (DB.db (iZ ≤ (cI z_1) - iO ∧ (cI z_1) - (1 :
 Int) ≤ (cI z_1))) (∃ (z' : Nat), (((z' ≤ lN q9 ∧ ∀ (i : Nat), z' ≤ i → gD (Zi (OB.arr (3 : TypeId) 1 (lN (Yc.q z)) fun (i x : Nat) => aI (gD (Yc.q z) i iZ))) i iZ = iZ) ∧ z' < z_1) ∧ nat_lit 2 = 2 ∧ 0 = 0 ∧ z' = Int.toNat ((cI z_1) - iO)) ∧ q10 ∧ True))) (j2 ∧ (True ∧ ze (AV.xl false 1 z_1 fun i j => aI (gD (Yc.q z) (0 + i) iZ)) q12) ∧ ze q14 q16))))))))))); OG
 iB d a (Yc.z z) (Yc.q z) (Yc.r z) → zZ (leB iZ ((cI (Yc.z z)) - iO)) (bF (DB.db (iZ ≤ (cI (Yc.z z)) - iO ∧ (cI (Yc.z z)) - iO < (lZ a))) (bF (dK (Yc.r z * iB)) (zZ (dK q3) (bF (DB.db (d ≠ iZ)) (bF (dK q4) (bF (DB.db (iZ ≤ (cI (Yc.z z)) - iO ∧ (cI (Yc.z z)) - iO < (cI (Int.toNat (lZ a))))) (q5 ∧ q5 ∧ bF (DB.db (d ≠ iZ)) q6))))
 False))) (q7 ∧ q7 ∧ q8 ∧ ∀ (z_1 : Nat), let q18 := (!zR true (zG iZ (cI z_1)) || zR true (zG iZ (cI z_1))); (z_1 ≤ lN q9 ∧ ∀ (i : Nat), z_1 ≤ i → gD (Zi (OB.arr (3 : TypeId) 1 (lN (Yc.q z)) fun (i x : Nat) => aI (gD (Yc.q z) i iZ))) i iZ = iZ) → bF q18 (bF q18 (bF (!zR true (zG iZ (cI z_1)) || dK ((cI z_1) - iO)) (bF q18 (bF q18 (bF (!zR true (zG iZ (cI z_1)) || DB.db (iZ ≤ (cI z_1) - (1 :
 Int) ∧ (cI z_1) - iO < (cI z_1))) (bF q18 (bF q18 (bF (!zG iZ (cI z_1) || zR true (zG iZ (cI z_1))) (zZ (bif zG iZ (cI z_1) then gD (Yc.q z) (0 + Int.toNat ((cI z_1) - iO)) iZ == iZ else false) (bF (dK ((cI z_1) - iO)) (bF (DB.db (iZ ≤ (cI z_1) - iO ∧ (cI z_1) - iO ≤ (cI z_1))) (∃ (z' : Nat), (((z' ≤ lN q9 ∧ ∀ (i : Nat), z' ≤ i → gD (Zi (OB.arr (3 : TypeId) 1 (lN (Yc.q z)) fun (i x : Nat) => AV.v
 (Value.int .i64 (gD (Yc.q z) i iZ)))) i iZ = iZ) ∧ z' < z_1) ∧ nat_lit 2 = 2 ∧ 0 = 0 ∧ z' = Int.toNat ((cI z_1) - iO)) ∧ q10 ∧ True))) (j2 ∧ (True ∧ ze (AV.xl false 1 z_1 fun i j => aI (gD (Yc.q z) (0 + i) iZ)) q12) ∧ ze q14 q16))))))))))))) := by
 delta bF dK xI lR cI kI j2 lZ lN gD iZ iO iB aI
 dsimp only
 intro hb
 have e0 : (zr.dflt : Int) = 0 := rfl
 simp only [↓yq, ↓ZE, row_one]
 simp only [sS, dS, e0]
 simp only [and_self, Gs, implies_true, and_true]
 obtain ⟨d0, d1⟩ := hd
 have va := zf (b := 1000000000) (by omega) ha
 refine ⟨⟨by omega, by omega, by omega⟩, ⟨by omega, by omega⟩, ⟨⟨a.length, List.replicate a.length 0, 0⟩, ⟨.start (by omega) d0 a, rfl⟩, ⟨by simp, fun i j _ hj => vJ _ i j hj⟩, rfl⟩, fun z z1 => ⟨fun hz => ?_, fun hz => ?_⟩⟩
 ·have zle := z1.le
  have zl := z1.len
  have R0 := z1.r0
  have R1 := z1.r1
  have hzk : z.z - 1 + 1 = z.z := by omega
  obtain ⟨⟨n0, n1⟩, hs⟩ := (hzk.symm ▸ z1 : OG 1000000000 d a (z.z - 1 + 1) z.q z.r).step (by omega) ha
  have ek : ((z.z : Int) - 1).toNat = z.z - 1 := by omega
  rw [ek]
  have xk := ha.get (by omega) (z.z - 1)
  have q1 := hs.in_.get (by omega) (z.z - 1)
  rw [Yp _ _ _ _ (by omega), if_pos rfl] at q1
  generalize a.getD (z.z - 1) 0 + z.r * 1000000000 = N at *
  exact ⟨⟨by omega, by omega⟩, ⟨by omega, by omega⟩, ⟨by omega, by omega⟩, by omega, ⟨by omega, by omega⟩, ⟨by omega, by omega⟩, by omega, ⟨by omega, by omega⟩, ⟨z.z - 1, _, _⟩, ⟨⟨hs, by simp only; omega⟩, by simp only; omega⟩, ⟨by simp, fun i j _ => SZ _ _ _ (by omega) i j⟩, rfl⟩
 ·have zl := z1.len
  have hz0 : z.z = 0 := by have := z1.le; omega
  obtain ⟨D, rfl⟩ : ∃ D : Nat, d = D := ⟨d.toNat, by omega⟩
  obtain ⟨X, hX⟩ : ∃ X : Nat, zU 1000000000 a = X := ⟨(zU 1000000000 a).toNat, by omega⟩
  obtain ⟨t1, _, t3⟩ := (hz0 ▸ z1 : OG 1000000000 D a 0 z.q z.r).end_ (b := 1000000000) (by omega) (by omega) (by omega) X hX
  rw [hX]
  simp only [Int.toNat_natCast]
  refine ⟨⟨a.length, ⟨by omega, fun i hi => Wj (by omega)⟩, rfl⟩, fun k ⟨k1, k2⟩ => ⟨fun h => ?_, fun h => ?_, zX.2 ⟨fun c => ?_, fun c => ?_⟩⟩⟩
  ·have := (zp _ _).1 h; exact ⟨by omega, by omega⟩
  ·have := (zp _ _).1 h; exact ⟨by omega, by omega⟩
  ·obtain ⟨c1, c2⟩ := Tc k2 c
   exact ⟨⟨by omega, by omega⟩, ⟨by omega, by omega⟩, k - 1, ⟨⟨by omega, c2⟩, by omega⟩, by omega⟩
  ·have ht := T2 k1 k2 c
   refine ⟨rfl, G6 k1 (ht.symm.trans t1), ?_⟩
   have er : zt (AV.xl true 1 1 fun x j => AV.v (Value.int IntKind.i64 z.r)) = [z.r] := rfl
   rw [er, show zh [z.r] = zT 1000000000 (X % D) from t3]
   exact zV _
theorem ku (a : List Int) (d : Int) (ha : Zp 1000000000 a) (hd : 0 < d ∧ d ≤ 1000000000) (hl : a.length ≤ 1000000000) : zu Tryz.prog [] 176 [Z1 a, .i d] (.tup 2 (zw [Z1 (zT 1000000000 ((zU 1000000000 a).toNat / d.toNat)), Z1 (zT 1000000000 ((zU 1000000000 a).toNat % d.toNat))])) :=
 zv (T := GN) (an := iJ a d) mixed OR (Eq.mp (by kernel_rfl) (NJ a d ha hd hl))
theorem Kt : zP Tryz.prog [] 176 rO := by
 intro xs ps r h hp
 unfold rO at h
 split at h
 ·skip
  rename_i x_a d
  cases h
  obtain ⟨q0, q1, q2, q3, -⟩ := Zo hp
  exact weaken (ys := [Z1 (zt x_a), .i d]) ⟨zd q0, zV _, trivial⟩ (ku (zt x_a) d q1 q2 q3)
 ·cases h
def VP (b u2 v1 v2 : Int) : Nat → Int → Int → Int
 | 0, q, _ => q
 | n + 1, q, r => bif leB b q || (zG r b && zG (r * b + u2) (q * v2)) then (bif leB b (r + v1) then q - 1 else VP b u2 v1 v2 n (q - 1) (r + v1)) else q
def vz (b : Int) (u v : List Int) (j : Nat) : Int :=
 VP b (u.getD (j + v.length - 2) 0) (v.getD (v.length - 1) 0) (v.getD (v.length - 2) 0) ((u.getD (j + v.length) 0 * b + u.getD (j + v.length - 1) 0).tdiv (v.getD (v.length - 1) 0)).toNat
  ((u.getD (j + v.length) 0 * b + u.getD (j + v.length - 1) 0).tdiv (v.getD (v.length - 1) 0)) ((u.getD (j + v.length) 0 * b + u.getD (j + v.length - 1) 0).tmod (v.getD (v.length - 1) 0))
structure xp where
 q : Int
 r : Int
def jY (u v : List Int) (j : Int) : yQ :=
 .two .auto (.two .auto (.two .auto (.two .auto (.two (.one (.loop xp (fun σ z => [(0, σ.tm 0), (1, σ.tm 1), (2, σ.tm 2), (7, σ.tm 7), (9, .i z.q), (10, .i z.r)]) (fun σ z => []) 0 (fun σ z => 0 ≤ z.q ∧ z.q ≤ 2000000000 ∧ 0 ≤ z.r ∧ z.r < 1000000000 ∧ VP 1000000000 (u.getD (j.toNat + v.length - 2) 0) (v.getD (v.length - 1) 0) (v.getD (v.length - 2) 0) z.q.toNat z.q z.r = vz 1000000000 u v j.toNat) (fun σ z => z.q.toNat) .auto)) .auto))))
def Q3 : List AV → Option (List zN × AV)
 | [x_u, x_v, .v (.int .i64 j)] => some ([.b (ZZ Int x_u), .b (ZZ Int x_v), .p (Zp 1000000000 (zt x_u)), .p (Zp 1000000000 (zt x_v)), .p (2 ≤ (zt x_v).length), .p ((zt x_v).length ≤ 1000000000), .p (0 ≤ j ∧ j + (zt x_v).length < (zt x_u).length), .p (0 < (zt x_v).getD ((zt x_v).length - 1) 0), .p ((zt x_u).getD (j.toNat + (zt x_v).length) 0 ≤ (zt x_v).getD ((zt x_v).length - 1) 0)], .i (vz 1000000000 (zt x_u) (zt x_v) j.toNat))
 | _ => none
theorem K2 (u : List Int) (v : List Int) (j : Int) (hu : Zp 1000000000 u) (hv : Zp 1000000000 v) (hn : 2 ≤ v.length) (hl : v.length ≤ 1000000000) (hj : 0 ≤ j ∧ j + v.length < u.length) (h1 : 0 < v.getD (v.length - 1) 0) (hc : u.getD (j.toNat + v.length) 0 ≤ v.getD (v.length - 1) 0) :
 let q2 := (yc .i64 (j + (lZ v))); let q1 := (DB.db q2); let q3 := (Int.toNat (j + (lZ v))); let q4 := (j + (lZ v) - iO); let q5 := (gD u q3 zr.dflt * iB + gD u (Int.toNat q4) zr.dflt); let q6 := (dK ((lZ v) - iO)); let q7 := (DB.db (iZ ≤ (lZ v) - iO ∧ (lZ v) - iO < (lZ v))); let q9 := (Int.toNat ((lZ v) - iO)); let q8 := (DB.db (gD v q9 zr.dflt ≠ (0 :
 Int))); let q10 := (gD v q9 zr.dflt); let q11 := (gD u (Int.toNat j + lN v - 2) iZ); let q12 := (gD v (lN v - 1) iZ); let q13 := (gD v (lN v - 2) iZ); let q14 := (xI u); let q15 := (xI v); let q16 := (kI ∧ (lZ v) = (lZ v)); let q21 := (j + (lZ v) - (2 : Int)); ZY [AV.xl false 1
 (lN u) fun i j => aI (gD u i zr.dflt), xI v, aI j] → bF q1 (bF (DB.db (iZ ≤ j + (lZ v) ∧ j + (lZ v) < (lZ u))) (bF (dK (gD u q3 zr.dflt * iB)) (bF q1 (bF (dK q4) (bF (DB.db (iZ ≤ j + (lZ v) - iO ∧ j + (lZ v) - iO < (lZ u))) (bF (DB.db (yc .i64
 q5)) (bF q6 (bF q7 (bF q8 (bF (dK (Int.tdiv q5 q10)) (bF q6 (bF q7 (bF q8 ((∃ (z : xp), ((iZ ≤ xp.q z ∧ xp.q z ≤ (2000000000 : Int) ∧ iZ ≤ xp.r z ∧ xp.r z < iB ∧ VP iB q11 q12 q13 (Int.toNat (xp.q z)) (xp.q z) (xp.r z) = vz iB u v (Int.toNat j)) ∧ ze q14 q14 ∧ ze q15 q15 ∧ (kI ∧ j = j) ∧ q16 ∧ (kI ∧ Int.tdiv q5 q10 = xp.q z) ∧ kI ∧ Int.tmod q5 q10 = xp.r z) ∧ True) ∧ ∀ (z : xp), let q17 := (!zR false (leB iB
 (xp.q z)) || zR false (leB iB (xp.q z))); let q19 := (zR false (leB iB (xp.q z)) && zR true (zG (xp.r z) iB)); let q18 := (!q19 || zR false (leB iB (xp.q z)) && zR true (zG (xp.r z) iB)); let q20 := (xp.q z * gD v (Int.toNat ((lZ v) - (2 : Int))) zr.dflt); let q22 := (xp.r z * iB + gD u (Int.toNat q21) zr.dflt); let q23 := (xp.r z + gD v q9 zr.dflt); iZ ≤ xp.q z ∧ xp.q z ≤ (2000000000 : Int) ∧ iZ ≤ xp.r z ∧ xp.r z <
 iB ∧ VP iB q11 q12 q13 (Int.toNat (xp.q z)) (xp.q z) (xp.r z) = vz iB u v (Int.toNat j) → bF q17 (zZ q17 (bF q18 (bF (!q19 || dK ((lZ v) - (2 : Int))) (bF q18 (bF q18 (bF (!q19 || DB.db (iZ ≤ (lZ v) - (2 : Int) ∧ (lZ v) - (2 : Int) < (lZ v))) (bF q18 (bF q18 (bF q18 (bF (!q19 || dK q20) (bF q18 (bF (!q19 || dK (xp.r z * iB)) (bF q18 (zZ q18
 (bF (!q19 || DB.db q2) (bF q18 (bF (!q19 || dK q21) (bF q18 (bF q18 (bF (!q19 || DB.db (iZ ≤ j + (lZ v) - (2 : Int) ∧ j + (lZ v) - (2 : Int) < (lZ u))) (bF q18 (bF q18 (bF q18 (bF (!q19 || dK q22) (bF q18 (bF q18 (bF q17 (bF (!zR false (leB iB (xp.q z)) || (!zG (xp.r z) iB || zR false (leB iB (xp.q z)) && zR true (zG (xp.r z) iB))) (bF (!!leB iB (xp.q z) ||
 zR false (leB iB (xp.q z))) (zZ (bif leB iB (xp.q z) then true else bif zG (xp.r z) iB then zG q22 q20 else false) (bF (dK (xp.q z - iO)) (bF q6 (bF q7 (bF (dK q23) (zZ (leB iB q23) (kI ∧ xp.q z - iO = vz iB u v (Int.toNat j)) (∃ (z' : xp), (((iZ ≤ xp.q z' ∧ xp.q z' ≤ (2000000000 : Int) ∧ iZ ≤ xp.r z' ∧ xp.r z' < iB ∧ VP iB q11 q12 q13 (Int.toNat (xp.q z')) (xp.q z')
 (xp.r z') = vz iB u v (Int.toNat j)) ∧ Int.toNat (xp.q z') < Int.toNat (xp.q z)) ∧ ze q14 q14 ∧ ze q15 q15 ∧ (kI ∧ j = j) ∧ q16 ∧ (kI ∧ xp.q z - iO = xp.q z') ∧ kI ∧ xp.r z + gD v q9 zr.dflt = xp.r z') ∧ True)))))) (kI ∧ xp.q z = vz iB u v (Int.toNat j)))))))))))))))))) False)))))))))))))
 False))))))))))))))) := by
 delta bF dK xI kI lZ lN gD iZ iO iB aI
 dsimp only
 intro hb
 have e0 : (zr.dflt : Int) = 0 := rfl
 simp only [↓yq, ↓ZE, row_one]
 simp only [sS, dS, e0]
 have hu1 : u.length ≤ 9223372036854775807 := hb.1.1
 have en : ((v.length : Int) - 1).toNat = v.length - 1 := by omega
 have en2 : ((v.length : Int) - 2).toNat = v.length - 2 := by omega
 have ej : (j + (v.length : Int)).toNat = j.toNat + v.length := by omega
 have ej1 : (j + (v.length : Int) - 1).toNat = j.toNat + v.length - 1 := by omega
 have ej2 : (j + (v.length : Int) - 2).toNat = j.toNat + v.length - 2 := by omega
 rw [en, en2, ej, ej1, ej2]
 have hF : vz 1000000000 u v j.toNat = VP 1000000000 (u.getD (j.toNat + v.length - 2) 0) (v.getD (v.length - 1) 0) (v.getD (v.length - 2) 0) ((u.getD (j.toNat + v.length) 0 * 1000000000 + u.getD (j.toNat + v.length - 1) 0).tdiv (v.getD (v.length - 1) 0)).toNat
  ((u.getD (j.toNat + v.length) 0 * 1000000000 + u.getD (j.toNat + v.length - 1) 0).tdiv (v.getD (v.length - 1) 0)) ((u.getD (j.toNat + v.length) 0 * 1000000000 + u.getD (j.toNat + v.length - 1) 0).tmod (v.getD (v.length - 1) 0)) := rfl
 rw [hF]
 have u0 := hu.get (by omega) (j.toNat + v.length)
 have u1 := hu.get (by omega) (j.toNat + v.length - 1)
 have u2 := hu.get (by omega) (j.toNat + v.length - 2)
 have w1 := hv.get (by omega) (v.length - 1)
 have w2 := hv.get (by omega) (v.length - 2)
 clear hF
 generalize u.getD (j.toNat + v.length) 0 = a0 at *
 generalize u.getD (j.toNat + v.length - 1) 0 = a1 at *
 generalize u.getD (j.toNat + v.length - 2) 0 = a2 at *
 generalize v.getD (v.length - 1) 0 = b1 at *
 generalize v.getD (v.length - 2) 0 = b2 at *
 obtain ⟨e, m0, m1, q0⟩ := jK (n := a0 * 1000000000 + a1) (b := b1) (by omega) h1
 have qle : (a0 * 1000000000 + a1).tdiv b1 ≤ 2000000000 := by
  refine Decidable.byContradiction fun hn => ?_
  have t1 : b1 * 2000000001 ≤ b1 * (a0 * 1000000000 + a1).tdiv b1 := Int.mul_le_mul_of_nonneg_left (by omega) (by omega)
  omega
 generalize (a0 * 1000000000 + a1).tdiv b1 = q at *
 generalize (a0 * 1000000000 + a1).tmod b1 = r at *
 obtain ⟨E, hE⟩ : ∃ E, VP 1000000000 a2 b1 b2 q.toNat q r = E := ⟨_, rfl⟩
 rw [hE]
 refine ⟨⟨by omega, by omega⟩, ⟨by omega, by omega⟩, ⟨by omega, by omega⟩, ⟨by omega, by omega⟩, ⟨by omega, by omega⟩, ⟨by omega, by omega⟩, ⟨by omega, by omega⟩, ⟨by omega, by omega⟩, ⟨by omega, by omega⟩, by omega, ⟨by omega, by omega⟩, ⟨by omega, by omega⟩, ⟨by omega, by omega⟩, by omega, ⟨⟨q, r⟩, ⟨q0, qle, m0, by simp only; omega, hE⟩, rfl, rfl⟩, fun ⟨Q, R⟩ ⟨z1, z2, z3, z4, z5⟩ => ?_⟩
 simp only at z1 z2 z3 z4 z5 ⊢
 have p0 : 0 ≤ Q * b2 := Int.mul_nonneg z1 w2.1
 have p1 : Q * b2 ≤ Q * 1000000000 := Int.mul_le_mul_of_nonneg_left (by omega) z1
 refine ⟨fun _ => ⟨by omega, by omega⟩, fun _ => ⟨by omega, by omega⟩, fun _ => ⟨by omega, by omega⟩, fun _ => ⟨by omega, by omega⟩, fun _ => ⟨by omega, by omega⟩, fun _ => ⟨by omega, by omega⟩, fun _ => ⟨by omega, by omega⟩, fun _ => ⟨by omega, by omega⟩, ?_⟩
 refine UC (by cases leB 1000000000 Q <;> cases zG R 1000000000 <;> rfl) ?_
 refine zX.2 ⟨fun c => ?_, fun c => ?_⟩
 ·have hQ : 0 < Q := by
   rw [Bool.or_eq_true, Zx, Bool.and_eq_true, zp, zp] at c
   rcases c with c | c
   ·omega
   ·refine Decidable.byContradiction fun hn => ?_
    have : Q = 0 := by omega
    rw [this, Int.zero_mul] at c
    omega
  obtain ⟨n, hn⟩ : ∃ n : Nat, Q.toNat = n + 1 := ⟨Q.toNat - 1, by omega⟩
  rw [hn] at z5 ⊢
  unfold VP at z5
  rw [c, cond_true] at z5
  have hn2 : (Q - 1).toNat = n := by omega
  refine ⟨⟨by omega, by omega⟩, ⟨by omega, by omega⟩, ⟨by omega, by omega⟩, ⟨by omega, by omega⟩, fun h => ?_, fun h => ⟨⟨Q - 1, R + b1⟩, ⟨⟨by simp only; omega, by simp only; omega, by simp only; omega, h, ?_⟩, by simp only; omega⟩, rfl, rfl⟩⟩
  ·rw [(Zx _ _).2 h] at z5; exact z5
  ·rw [show leB 1000000000 (R + b1) = false from Bool.eq_false_iff.2 fun e => by have := (Zx _ _).1 e; omega] at z5
   rw [← z5]
   simp only [hn2, cond_false]
 ·rw [← z5]
  cases hQ : Q.toNat with
  | zero => rfl
  | succ n => unfold VP; rw [c]; rfl
theorem jD (u : List Int) (v : List Int) (j : Int) (hu : Zp 1000000000 u) (hv : Zp 1000000000 v) (hn : 2 ≤ v.length) (hl : v.length ≤ 1000000000) (hj : 0 ≤ j ∧ j + v.length < u.length) (h1 : 0 < v.getD (v.length - 1) 0) (hc : u.getD (j.toNat + v.length) 0 ≤ v.getD (v.length - 1) 0) : zu Tryz.prog [] 178 [Z1 u, Z1 v, .i j] (.i (vz 1000000000 u v j.toNat)) :=
 zv (T := T0) (an := jY u v j) mixed zq (Eq.mp (by kernel_rfl) (K2 u v j hu hv hn hl hj h1 hc))
theorem ip : zP Tryz.prog [] 178 Q3 := by
 intro xs ps r h hp
 unfold Q3 at h
 split at h
 ·skip
  rename_i x_u x_v j
  cases h
  obtain ⟨q0, q1, q2, q3, q4, q5, q6, q7, q8, -⟩ := Zo hp
  exact weaken (ys := [Z1 (zt x_u), Z1 (zt x_v), .i j]) ⟨zd q0, zd q1, zV _, trivial⟩ (jD (zt x_u) (zt x_v) j q2 q3 q4 q5 q6 q7 q8)
 ·cases h
noncomputable def Gg : Tb := (T0.plus 155 vN).body Tryz.prog [(147, T3)]
theorem Ow : zz Tryz.prog Gg := zz.body mixed (zz.plus zq SG) _
def Wa (x y : List Int) : List Int := zT 1000000000 (zU 1000000000 x * zU 1000000000 y).toNat
theorem N5 (x y : List Int) (hx : Zp 1000000000 x) (hy : Zp 1000000000 y) (hlx : x.length ≤ 1000000000) (hly : y.length ≤ 1000000000) :
 let q1 := ((lZ x) + (lZ y) + iO); let q2 := (xI y); let q3 := (nat_lit 0 = 0 ∧ 0 = 0 ∧ Int.toNat q1 = Int.toNat q1); let q4 := (xI x); let q5 := (kI ∧ (lZ x) = (lZ x)); let q9 := (kI ∧ (lZ y) + iO = (lZ y) + iO); let q13 := (zt q2); ZY [AV.xl false 1 (lN x)
 fun i j => aI (gD x i zr.dflt), xI y] → bF (dK ((lZ x) + (lZ y))) (bF (dK q1) (bF (DB.db (iZ ≤ (lZ x) + (lZ y) + iO ∧ (lZ x) + (lZ y) + iO ≤ (lZ x) + (lZ y) + iO ∧ (↑8 : Int) * q1 ≤ (140737488355328 : Int))) ((∃ (z : yW), ((Ws iB x y (yW.i z) (yW.out z) ∧
 yW.i z ≤ lN x) ∧ ze q2 q2 ∧ q3 ∧ ze q4 q4 ∧ q5 ∧ kI ∧ iZ = (cI (yW.i z))) ∧ (3 : TypeId) = 3 ∧ 1 = 1 ∧ lN (yW.out z) = Int.toNat q1 ∧ ∀ (i j : Nat), i < Int.toNat q1 → j < 1 → ze (Z5 (Value.int .i64 iZ) j) (aI (gD (yW.out z) i iZ))) ∧ ∀ (z : yW), let q6 := (Int.toNat (AV.int (aI (cI (yW.i z))))); let q7 := (kI ∧ (cI (yW.i z)) = (cI (yW.i z))); let q8 := (kI ∧ gD x (Int.toNat (cI (yW.i z))) zr.dflt = gD x (Int.toNat
 (cI (yW.i z))) zr.dflt); let q16 := (Zi (OB.arr (3 : TypeId) 1 (lN (yW.out z)) fun (i x : Nat) => aI (gD (yW.out z) i iZ))); Ws iB x y (yW.i z) (yW.out z) ∧ yW.i z ≤ lN x → zZ (zG (cI (yW.i z)) (lZ x)) (bF (DB.db (iZ ≤ (cI (yW.i z)) ∧ (cI (yW.i z)) < (lZ x))) (bF (dK ((lZ y) + iO)) ((∃ (z_1 : yX), ((MulK iB x y q6 (yX.k z_1) (yX.out z_1) (yX.c z_1) ∧ yX.k z_1 ≤ lN y + 1 ∧
 (yX.k z_1 = lN y + 1 → yX.c z_1 = iZ)) ∧ ze q2 q2 ∧ q3 ∧ q7 ∧ q8 ∧ ze q4 q4 ∧ q5 ∧ q7 ∧ q9 ∧ (kI ∧ iZ = yX.c z_1) ∧ kI ∧ iZ = (cI (yX.k z_1))) ∧ 3 = 3 ∧ 1 = 1 ∧ lN (yX.out z_1) = lN (yW.out z) ∧ ∀ (i j : Nat), i < lN (yW.out z) → j < 1 → kI ∧ gD (yW.out z) i iZ = gD (yX.out z_1) i iZ) ∧ ∀ (z_1 : yX), let q11 := ((cI (yW.i z)) + (cI (yX.k z_1))); let q10 := (dK q11); let q12 := (DB.db (iZ ≤ (cI (yW.i z)) +
 (cI (yX.k z_1)) ∧ (cI (yW.i z)) + (cI (yX.k z_1)) < (cI (Int.toNat q1)))); let q14 := (0 + Int.toNat q11); let q15 := (gD (yX.out z_1) q14 iZ + gD x (Int.toNat (cI (yW.i z))) zr.dflt * gD q13 (Int.toNat (cI (yX.k z_1))) iZ + yX.c z_1); MulK iB x y q6 (yX.k z_1) (yX.out z_1) (yX.c z_1) ∧ yX.k z_1 ≤ lN y + 1 ∧ (yX.k z_1 = lN y + 1 → yX.c z_1 = iZ) → zZ (zG (cI (yX.k z_1)) ((lZ y) + iO)) (bF q10 (bF q12 (bF (ZZ Int q2) (iZ ≤
 (cI (yX.k z_1)) ∧ bF (dK (gD x (Int.toNat (cI (yW.i z))) zr.dflt * gD q13 (Int.toNat (cI (yX.k z_1))) iZ)) (bF (dK (gD (yX.out z_1) q14 iZ + gD x (Int.toNat (cI (yW.i z))) zr.dflt * gD q13 (Int.toNat (cI (yX.k z_1))) iZ)) (bF (dK q15) (bF q10 (bF (dK (Int.tdiv q15 iB)) (bF q12 (bF (dK ((cI (yX.k z_1)) + iO)) (∃ (z' : yX), (((MulK iB x y q6 (yX.k z') (yX.out z') (yX.c
 z') ∧ yX.k z' ≤ lN y + 1 ∧ (yX.k z' = lN y + 1 → yX.c z' = iZ)) ∧ lN y + 1 - yX.k z' < lN y + 1 - yX.k z_1) ∧ ze q2 q2 ∧ q3 ∧ q7 ∧ q8 ∧ ze q4 q4 ∧ q5 ∧ q7 ∧ q9 ∧ (kI ∧ Int.tdiv q15 iB = yX.c z') ∧ kI ∧ (cI (yX.k z_1)) + iO = (cI (yX.k z'))) ∧ 3 = 3 ∧ 1 = 1 ∧ lN (yX.out z') = lN (yX.out z_1) ∧ ∀ (i j : Nat), i < lN (yX.out z_1) → j < 1 → ze (if i = 0 + Int.toNat q11 ∧ 0 ≤ j ∧ j < 1 then aI (Int.tmod q15 iB) else AV.v
 (Value.int .i64 (gD (yX.out z_1) i iZ))) (aI (gD (yX.out z') i iZ))))))))))))) (bF (dK ((cI (yW.i z)) + iO)) (∃ (z' : yW), (((Ws iB x y (yW.i z') (yW.out z') ∧ yW.i z' ≤ lN x) ∧ lN x - yW.i z' < lN x - yW.i z) ∧ ze q2 q2 ∧ q3 ∧ ze q4 q4 ∧ q5 ∧ kI ∧ (cI (yW.i z)) + iO = (cI (yW.i z'))) ∧ 3 = 3 ∧ 1 = 1 ∧ lN (yW.out z') = lN (yX.out z_1) ∧ ∀ (i j : Nat), i
 < lN (yX.out z_1) → j < 1 → kI ∧ gD (yX.out z_1) i iZ = gD (yW.out z') i iZ))))) ((∃ (z_1 : Nat), ((z_1 ≤ lN q16 ∧ ∀ (i : Nat), z_1 ≤ i → gD (Zi (OB.arr (3 : TypeId) 1 (lN (yW.out z)) fun (i x : Nat) => aI (gD (yW.out z) i iZ))) i iZ = iZ) ∧ nat_lit 0 = 0 ∧ 0 = 0 ∧ z_1 = Int.toNat q1) ∧ 3 = 3 ∧ 1 = 1 ∧ lN (yW.out z) = lN (yW.out z) ∧ ∀ (i j : Nat), i < lN (yW.out z) → j < 1 → kI ∧ gD (yW.out
 z) i iZ = gD (yW.out z) i iZ) ∧ ∀ (z_1 : Nat), let q17 := (!zR true (zG iZ (cI z_1)) || zR true (zG iZ (cI z_1))); (z_1 ≤ lN q16 ∧ ∀ (i : Nat), z_1 ≤ i → gD (Zi (OB.arr (3 : TypeId) 1 (lN (yW.out z)) fun (i x : Nat) => aI (gD (yW.out z) i iZ))) i iZ = iZ) → bF q17 (bF q17 (bF (!zR true (zG iZ (cI z_1)) || dK ((cI z_1) - iO)) (bF q17 (bF q17 (bF (!zR true (zG iZ (cI z_1)) || DB.db (iZ ≤
 (cI z_1) - iO ∧ (cI z_1) - iO < (cI z_1))) (bF q17 (bF q17 (bF (!zG iZ (cI z_1) || zR true (zG iZ (cI z_1))) (zZ (bif zG iZ (cI z_1) then gD (yW.out z) (0 + Int.toNat ((cI z_1) - iO)) iZ == iZ else false) (bF (dK ((cI z_1) - iO)) (bF (DB.db (iZ ≤ (cI z_1) - iO ∧ (cI z_1) - iO ≤ (cI z_1))) (∃ (z' : Nat), (((z' ≤ lN q16 ∧ ∀ (i : Nat), z' ≤ i → gD (Zi (OB.arr (3 : TypeId) 1 (lN (yW.out z))
 fun (i x : Nat) => aI (gD (yW.out z) i iZ))) i iZ = iZ) ∧ z' < z_1) ∧ nat_lit 0 = 0 ∧ 0 = 0 ∧ z' = Int.toNat ((cI z_1) - iO)) ∧ 3 = 3 ∧ 1 = 1 ∧ lN (yW.out z) = lN (yW.out z) ∧ ∀ (i j : Nat), i < lN (yW.out z) → j < 1 → kI ∧ gD (yW.out z) i iZ = gD (yW.out z) i iZ))) (3 = 3 ∧ 1 = 1 ∧ z_1 = lN (Wa x y) ∧ ∀ (i j : Nat), i < lN (Wa x y) → j < 1 → kI ∧ gD (yW.out z) i iZ = gD (Wa x y) i (0 :
 Int))))))))))))))) := by
 delta bF dK xI cI kI lZ lN gD iZ iO iB aI
 dsimp only
 intro hb
 have e0 : (zr.dflt : Int) = 0 := rfl
 simp only [↓yq, ↓ZE, row_one]
 simp only [sS, dS, e0, Gs, implies_true, and_true]
 have en : ((x.length : Int) + (y.length : Int) + 1).toNat = x.length + y.length + 1 := by omega
 rw [en]
 refine ⟨⟨by omega, by omega⟩, ⟨by omega, by omega⟩, ⟨by omega, Int.le_refl _, by omega⟩, ⟨⟨0, List.replicate (x.length + y.length + 1) 0⟩, ⟨⟨.zero_ (by omega) _ _, Nat.zero_le _⟩, rfl⟩, by simp, fun i j _ hj => vJ _ i j hj⟩, fun z ⟨z1, z2⟩ => ⟨fun hz => ⟨⟨by omega, hz⟩, ⟨by omega, by omega⟩, ⟨⟨0, 0, z.out⟩, ⟨⟨z1.start (by omega), Nat.zero_le _, fun h => rfl⟩, rfl, rfl⟩, rfl, fun _ _ _ _ => rfl⟩, fun w ⟨w1, w2, w3⟩ => ⟨fun hk0 => ?_, fun hk0 => ?_⟩⟩, fun hz => ?_⟩⟩
 ·have hz' : z.i < x.length := by omega
  have w4 := w1.len
  have hk : w.k ≤ y.length := by omega
  have ek : ((z.i : Int) + (w.k : Int)).toNat = z.i + w.k := by omega
  rw [ek]
  obtain ⟨⟨n0, n1⟩, hs⟩ := w1.step (by omega) hx hy hz' hk
  have g1 := hx.get (by omega) z.i
  have g2 := hy.get (by omega) w.k
  have g3 := w1.in_.get (by omega) (z.i + w.k)
  have c0 := w1.c0
  have c1 := w1.c1
  have p0 : 0 ≤ x.getD z.i 0 * y.getD w.k 0 := Int.mul_nonneg g1.1 g2.1
  have d0 := hs.c0
  have d1 := hs.c1
  refine ⟨⟨by omega, by omega⟩, ⟨by omega, by omega⟩, by omega, ⟨by omega, by omega⟩, ⟨by omega, by omega⟩, ⟨by omega, by omega⟩, ⟨by omega, by omega⟩, ⟨by omega, by omega⟩, ⟨by omega, by omega⟩, ⟨by omega, by omega⟩, ⟨w.k + 1, _, _⟩, ⟨⟨⟨hs, by simp only; omega, fun h => ?_⟩, by simp only; omega⟩, rfl, rfl⟩, by simp, fun i j _ => SZ _ _ _ (by omega) i j⟩
  have hk' : w.k = y.length := by simp only at h; omega
  have := (hk' ▸ w1 : MulK 1000000000 x y z.i y.length w.out w.c).last (by omega)
  rw [← hk'] at this
  exact this
 ·have c0 := w1.c0
  have hc := w3 (by omega)
  exact ⟨⟨by omega, by omega⟩, ⟨z.i + 1, w.out⟩, ⟨⟨⟨w1.fin (by omega) w2 hc, by simp only; omega⟩, by simp only; omega⟩, rfl⟩, rfl, fun _ _ _ _ => rfl⟩
 ·have hz' : z.i = x.length := by omega
  have zl := z1.len
  have he := (hz' ▸ z1 : Ws 1000000000 x y x.length z.out).end_ (b := 1000000000) (by omega)
  refine ⟨⟨x.length + y.length + 1, ⟨by omega, fun i hi => Wj (by omega)⟩, rfl⟩, fun k ⟨k1, k2⟩ => ⟨fun h => ?_, fun h => ?_, zX.2 ⟨fun c => ?_, fun c => ?_⟩⟩⟩
  ·have := (zp _ _).1 h; exact ⟨by omega, by omega⟩
  ·have := (zp _ _).1 h; exact ⟨by omega, by omega⟩
  ·obtain ⟨c1, c2⟩ := Tc k2 c
   exact ⟨⟨by omega, by omega⟩, ⟨by omega, by omega⟩, k - 1, ⟨⟨by omega, c2⟩, by omega⟩, by omega⟩
  ·have ht := T2 k1 k2 c
   have hp : z.out.take k = Wa x y := ht.symm.trans he
   have hkl : k = (Wa x y).length := by rw [← hp, List.length_take]; omega
   exact ⟨hkl, fun i j hi _ => by rw [← hp, Yg (by omega)]⟩
theorem LL {x y : List Int} (hx : Zp 1000000000 x) (hy : Zp 1000000000 y) (hlx : x.length ≤ 1000000000) (hly : y.length ≤ 1000000000) : yo Tryz.prog [] 113 [Z1 x, Z1 y] 3 1 (Wa x y).length (fun i _ => .i ((Wa x y).getD i 0)) :=
 RU mixed Ow (Eq.mp (by kernel_rfl) (N5 x y hx hy hlx hly) : SQ Tryz.prog Gg 113 (sW x y) [Z1 x, Z1 y] 3 1 (Wa x y).length (fun i _ => .i ((Wa x y).getD i 0)))
def SP : List AV → Option (List zN × TypeId × Nat × Nat × (Nat → Nat → AV))
 | [x, y] => some ([.b (ZZ Int x), .b (ZZ Int y), .p (Zp 1000000000 (zt x)), .p (Zp 1000000000 (zt y)), .p ((zt x).length ≤ 1000000000), .p ((zt y).length ≤ 1000000000)], 3, 1, (Wa (zt x) (zt y)).length, fun i _ => .i ((Wa (zt x) (zt y)).getD i 0))
 | _ => none
theorem kc : UX Tryz.prog [] 113 SP := by
 intro xs ps ty sz len els h hp
 unfold SP at h
 split at h
 ·rename_i x y
  cases h
  have q0 : ZZ Int x = true := hp (.b (ZZ Int x)) (by simp)
  have q1 : ZZ Int y = true := hp (.b (ZZ Int y)) (by simp)
  have q2 : Zp 1000000000 (zt x) := hp (.p (Zp 1000000000 (zt x))) (by simp)
  have q3 : Zp 1000000000 (zt y) := hp (.p (Zp 1000000000 (zt y))) (by simp)
  have q4 : (zt x).length ≤ 1000000000 := hp (.p ((zt x).length ≤ 1000000000)) (by simp)
  have q5 : (zt y).length ≤ 1000000000 := hp (.p ((zt y).length ≤ 1000000000)) (by simp)
  exact La (ys := [Z1 (zt x), Z1 (zt y)]) ⟨zd q0, zd q1, trivial⟩ (LL q2 q3 q4 q5)
 ·cases h
end Go.Te
