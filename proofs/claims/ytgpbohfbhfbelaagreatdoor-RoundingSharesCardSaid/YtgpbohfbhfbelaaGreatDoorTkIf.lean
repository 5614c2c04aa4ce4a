/- integer: write, result; strings.Repeat of the digit 0. -/
import Derived.Test.YtgpbohfbhfbelaaGreatDoorTkI0
set_option linter.unusedSimpArgs false
set_option linter.unusedVariables false
namespace Go.Te
open Go Go.Sx Go.Proofs Go.Ar Go.Lib
set_option maxRecDepth 100000
set_option maxHeartbeats 4000000
def Nb : List AV → Option (List zN × AV)
 | [.str s, .v (.int .i64 k)] => some ([.b (s == [48]), .p (0 ≤ k ∧ k ≤ 14)], .str (List.replicate k.toNat 48))
 | _ => none
theorem Hy  :
 True := by
 trivial
theorem Ii  :
 True := by
 trivial
theorem gU  :
 True := by
 trivial
theorem iz  :
 True := by
 trivial
theorem IU  :
 True := by
 trivial
theorem Hp  :
 True := by
 trivial
theorem I9  :
 True := by
 trivial
theorem Ij  :
 True := by
 trivial
theorem IM  :
 True := by
 trivial
theorem If  :
 True := by
 trivial
theorem Jz  :
 True := by
 trivial
theorem KM  :
 True := by
 trivial
theorem kT  :
 True := by
 trivial
theorem j7  :
 True := by
 trivial
theorem jR  :
 True := by
 trivial
theorem vJ {k : Int} {n : Nat} (e : k = n) (h : oW Tryz.prog (T0.deep Tryz.prog 5) 89 .auto [.str [48], .i k] (F8 (List.replicate n 48))) : zv Tryz.prog [] 89 [.str [48], .i k] (.str (List.replicate k.toNat 48)) := by
 subst e
 exact qI mixed (zz.deep mixed zr 5) Ke h
theorem GL : zQ Tryz.prog [] 89 Nb := by
 intro xs ps r h hp
 unfold Nb at h
 split at h
 ·rename_i s k
  cases h
  have q : (s == [48]) = true := hp _ List.mem_cons_self
  have q1 : 0 ≤ k ∧ k ≤ 14 := hp _ (List.mem_cons_of_mem _ List.mem_cons_self)
  obtain rfl := eq_of_beq q
  obtain ⟨n, rfl⟩ : ∃ n : Nat, k = n := ⟨k.toNat, by omega⟩
  match n, q1 with
  | 0, _ => exact vJ rfl (Eq.mp (by kernel_rfl) Hy)
  | 1, _ => exact vJ rfl (Eq.mp (by kernel_rfl) Ii)
  | 2, _ => exact vJ rfl (Eq.mp (by kernel_rfl) gU)
  | 3, _ => exact vJ rfl (Eq.mp (by kernel_rfl) iz)
  | 4, _ => exact vJ rfl (Eq.mp (by kernel_rfl) IU)
  | 5, _ => exact vJ rfl (Eq.mp (by kernel_rfl) Hp)
  | 6, _ => exact vJ rfl (Eq.mp (by kernel_rfl) I9)
  | 7, _ => exact vJ rfl (Eq.mp (by kernel_rfl) Ij)
  | 8, _ => exact vJ rfl (Eq.mp (by kernel_rfl) IM)
  | 9, _ => exact vJ rfl (Eq.mp (by kernel_rfl) If)
  | 10, _ => exact vJ rfl (Eq.mp (by kernel_rfl) Jz)
  | 11, _ => exact vJ rfl (Eq.mp (by kernel_rfl) KM)
  | 12, _ => exact vJ rfl (Eq.mp (by kernel_rfl) kT)
  | 13, _ => exact vJ rfl (Eq.mp (by kernel_rfl) j7)
  | 14, _ => exact vJ rfl (Eq.mp (by kernel_rfl) jR)
  | n + 15, q1 => exact absurd q1.2 (by omega)
 ·cases h
def Tb.own1 (T : Tb) (f : FuncId) (t : Nat → (Nat → OB) → List AV → (Nat → (Nat → OB) → AV → Prop) → Prop) : Tb := { T with own := fun g => bif Nat.beq g f then some t else T.own g }
theorem zz.own1 {P : Program} {T : Tb} (hT : zz P T) {f : FuncId} {t : Nat → (Nat → OB) → List AV → (Nat → (Nat → OB) → AV → Prop) → Prop} (ht : UW P T.objs f t) : zz P (Tb.own1 T f t) := by
 refine ⟨fun g t' h => ?_, hT.pu, hT.fre⟩
 simp only [Tb.own1] at h
 cases hx : Nat.beq g f with
 | false => rw [hx] at h; exact hT.own _ _ h
 | true =>
  rw [hx] at h
  obtain rfl := Nat.eq_of_beq_eq_true hx
  cases h
  exact ht
noncomputable def Ez (G : List (Nat × Obj)) : Tb := (Tb.own1 (Tb.own1 (LC G) 201 Ft) 145 jN).body Tryz.prog [(212, .auto), (143, .auto), (144, .auto), (191, .auto)]
theorem OR {G : List (Nat × Obj)} (hG : zO G) : zz Tryz.prog (Ez G) := zz.body mixed (zz.own1 (zz.own1 (YK hG) (J8 G)) (kw G)) _
noncomputable def Ey (G : List (Nat × Obj)) : Tb := (Ez G).plus 89 Nb
theorem OA {G : List (Nat × Obj)} (hG : zO G) : zz Tryz.prog (Ey G) := zz.plus (OR hG) (zQ.mono GL)
def zF (x : Big) (z : Nat) : zj := (bif x.neg then [45] else []) ++ Lib.decDigits (WW 1000000000 x.l z)
def fM (σ : zh) : Nat :=
 match σ.bl 1 with
 | .box _ _ cs => yC (cs 1)
 | _ => 0
def Iw (x : Big) : yV :=
 .two .auto (.one (.two .auto (.unroll (x.l.length + 1) (.loop Nat (fun σ z => [(0, σ.tm 0), (1, σ.tm 1), (3, .i ((z : Int) - 1))])
  (fun σ z => [(1, .box 174 2 (zw [.np 1 0, .ns σ.nb 0 (zF x z).length])), (fM σ, .dead), (σ.nb, FO (zF x z))]) 1 (fun _ z => z < x.l.length) (fun _ z => z) .auto))))
def H3 (x : Big) : yV :=
 .two .auto (.two .auto (.two .auto (.two .auto (.two (.two .auto (.one (.range (Iw x) .auto .auto))) .auto))))
theorem sK (a b : zj) (i : Nat) : (a ++ b).getD i 0 = if i < a.length then a.getD i 0 else b.getD (i - a.length) 0 := by
 by_cases h : i < a.length
 ·rw [if_pos h, List.getD_eq_getElem?_getD, List.getElem?_append_left h, ← List.getD_eq_getElem?_getD]
 ·rw [if_neg h, List.getD_eq_getElem?_getD, List.getElem?_append_right (by omega), ← List.getD_eq_getElem?_getD]
theorem F5 (a b : zj) (i : Nat) : zi (if i < a.length then AV.v (Value.int IntKind.u8 ((a.getD i 0).toNat : Int)) else AV.v (Value.int IntKind.u8 ((b.getD (i - a.length) 0).toNat : Int))) (AV.v (Value.int IntKind.u8 (((a ++ b).getD i 0).toNat : Int))) := by
 rw [sK]
 split <;> exact zV _
theorem FE (a b c : zj) (i : Nat) : zi (if i < a.length + b.length then (if i < a.length then AV.v (Value.int IntKind.u8 ((a.getD i 0).toNat : Int)) else AV.v (Value.int IntKind.u8 ((b.getD (i - a.length) 0).toNat : Int))) else AV.v (Value.int IntKind.u8 ((c.getD (i - (a.length + b.length)) 0).toNat : Int))) (AV.v (Value.int IntKind.u8 (((a ++ b ++ c).getD i 0).toNat : Int))) := by
 rw [sK (a ++ b) c, List.length_append]
 split
 ·exact F5 a b i
 ·exact zV _
theorem eX (c : UInt8) (b : zj) (i : Nat) : zi (if i < 1 then AV.v (Value.int IntKind.u8 (c.toNat : Int)) else AV.v (Value.int IntKind.u8 ((b.getD (i - 1) 0).toNat : Int))) (AV.v (Value.int IntKind.u8 (((c :: b).getD i 0).toNat : Int))) := by
 match i with
 | 0 => exact zV _
 | i + 1 => rw [if_neg (by omega)]; exact zV _
theorem vY {n : Int} (h0 : 0 ≤ n) (h1 : n < 1000000000) : 1 ≤ (itoa n).length ∧ (itoa n).length ≤ 9 ∧ itoa n = decDigits n.toNat := by
 obtain ⟨m, rfl⟩ : ∃ m : Nat, n = m := ⟨n.toNat, by omega⟩
 have e : itoa (m : Int) = decDigits m := Go.Ar.Z0 m
 rw [Int.toNat_natCast, e]
 refine ⟨yH m, ?_, rfl⟩
 rw [Lib.decDigits_length]
 exact (ZX (by omega)).2 (by omega)
theorem Mu {x : Big} (hx : ZR 1000000000 x.l) (h : 0 < x.l.length) : zF x (x.l.length - 1) = (bif x.neg then [45] else []) ++ itoa (x.l.getD (x.l.length - 1) 0) := by
 have g := hx.get (by omega) (x.l.length - 1)
 rw [(vY g.1 g.2).2.2]
 unfold zF
 rw [Oh h]
theorem Lr {l : List Int} (hx : ZR 1000000000 l) (ht : zf l = l) {z : Nat} (hz : z < l.length) : WW 1000000000 l z ≠ 0 := by
 have e : l = zT 1000000000 (zt 1000000000 l).toNat := wT (b := 1000000000) (by omega) hx ht
 have hn : (zt 1000000000 l).toNat ≠ 0 := fun e0 => by
  rw [e0, Z3] at e
  rw [e] at hz
  exact absurd hz (Nat.not_lt_zero _)
 rw [e] at hz ⊢
 exact MJ (b := 1000000000) (by omega) hn hz
theorem kf {x : Big} (hx : ZR 1000000000 x.l) (ht : zf x.l = x.l) {z : Nat} (h0 : 0 < z) (h : z < x.l.length) :
  zF x (z - 1) = zF x z ++ List.replicate (9 - ((itoa (x.l.getD (z - 1) 0)).length : Int)).toNat 48 ++ itoa (x.l.getD (z - 1) 0) := by
 have g := hx.get (by omega) (z - 1)
 obtain ⟨g1, g2, g3⟩ := vY g.1 g.2
 have hs := Ob (k := 9) (l := x.l) (by omega) hx (i := z - 1) (by omega) (by rw [show z - 1 + 1 = z by omega]; exact Lr hx ht h)
 rw [show z - 1 + 1 = z by omega] at hs
 unfold zF
 rw [show decDigits (WW 1000000000 x.l (z - 1)) = decDigits (WW 1000000000 x.l z) ++ UG 9 (x.l.getD (z - 1) 0).toNat from hs]
 unfold UG
 rw [← g3, show (9 - ((itoa (x.l.getD (z - 1) 0)).length : Int)).toNat = 9 - (itoa (x.l.getD (z - 1) 0)).length by omega]
 simp only [List.append_assoc]
theorem H1 {x : Big} (hx : ZR 1000000000 x.l) (z : Nat) : (zF x z).length ≤ 9 * x.l.length + 2 := by
 unfold zF
 rw [List.length_append]
 have h1 : (bif x.neg then [(45 : UInt8)] else []).length ≤ 1 := by cases x.neg <;> simp
 have h2 : (decDigits (WW 1000000000 x.l z)).length ≤ 9 * x.l.length + 1 := by
  rw [Lib.decDigits_length]
  refine (ZX (by omega)).2 ?_
  have h3 := Yc (b := 1000000000) (by omega) (hx.drop z)
  have h4 := zd (b := 1000000000) (by omega) (hx.drop z)
  unfold WW
  have h5 : (1000000000 : Nat) ^ (x.l.drop z).length ≤ 1000000000 ^ x.l.length := Nat.pow_le_pow_right (by omega) (by simp)
  have h6 : (1000000000 : Nat) ^ x.l.length = 10 ^ (9 * x.l.length) := by rw [Nat.pow_mul]
  have h7 : 10 ^ (9 * x.l.length) ≤ 10 ^ (9 * x.l.length + 1) := Nat.pow_le_pow_right (by omega) (by omega)
  have h8 : (zt 1000000000 (x.l.drop z)).toNat < 1000000000 ^ (x.l.drop z).length := by
   have : ((zt 1000000000 (x.l.drop z)).toNat : Int) < ((1000000000 ^ (x.l.drop z).length : Nat) : Int) := by rw [Int.toNat_of_nonneg h4, Int.natCast_pow]; exact h3
   omega
  exact Nat.lt_of_lt_of_le h8 (by omega)
 omega
theorem iu {x : Big} (hx : ZR 1000000000 x.l) (ht : zf x.l = x.l) (h : 0 < x.l.length) : zF x 0 = itoa (bif x.neg then - zt 1000000000 x.l else zt 1000000000 x.l) ∧ 0 < (zF x 0).length := by
 have hz := Lr hx ht h
 have e : WW 1000000000 x.l 0 = (zt 1000000000 x.l).toNat := by unfold WW; rw [List.drop_zero]; rfl
 rw [e] at hz
 unfold zF
 rw [e]
 obtain ⟨n, hn⟩ : ∃ n : Nat, zt 1000000000 x.l = n := ⟨(zt 1000000000 x.l).toNat, by omega⟩
 rw [hn] at hz ⊢
 rw [Int.toNat_natCast] at hz ⊢
 refine ⟨?_, by have := yH n; simp; omega⟩
 cases x.neg with
 | true => exact (Go.Ar.itoa_neg (by omega)).symm
 | false => exact (Go.Ar.Z0 n).symm
def Tn : List AV → Option (List zN × AV)
 | [x_x] => some ([.b (yo Big x_x), .p (ZR 1000000000 (yR (α := Big) x_x).l), .p (zf (yR (α := Big) x_x).l = (yR (α := Big) x_x).l), .p ((yR (α := Big) x_x).l.length ≤ 100000000)], .str (itoa (bif (yR (α := Big) x_x).neg then - zt 1000000000 (yR (α := Big) x_x).l else zt 1000000000 (yR (α := Big) x_x).l)))
 | _ => none
theorem OF (G : List (Nat × Obj)) (x : Big) (hx : ZR 1000000000 x.l) (ht : zf x.l = x.l) (hl : x.l.length ≤ 100000000) :
 let q1 := (bif Big.neg x then -zt iB (Big.l x) else zt iB (Big.l x)); let q3 := ((lZ (Big.l x)) - iO); let q2 := (dK q3); let q4 := (leB iZ q3); let q5 := (DB.db (iZ ≤ (lZ (Big.l x)) - iO ∧ (lZ (Big.l x)) - iO < (lZ (Big.l x)))); let q7 := (Int.toNat q3); let q6 := (iN ≤ gD (Big.l x) q7 zR.dflt ∧ gD (Big.l x) q7 zR.dflt ≤ iX); let q8 := (zM q3 q3); let q12 := (itoa
 (gD (Big.l x) q7 zR.dflt)); let q11 := (lZ q12); let q10 := ((9 : Int) - q11); let q9 := (dK q10); let q13 := (iZ ≤ (9 : Int) - q11 ∧ (9 : Int) - q11 ≤ (14 : Int)); let q15 := (List.replicate (Int.toNat q10) (48 : UInt8)); let q14 := (1 + lN q15); let q16 := (dK ((lZ (Big.l x)) - iO - iO)); let q18 := (xI (Big.l x)); let q17 := (114 = 114 ∧ 2 = 2 ∧ Big.neg x = Big.neg x ∧ zi q18 q18); zB [AV.agg 2
 (zR.enc x)] → zZ ((lZ (Big.l x)) == iZ) (bA #[(48 : UInt8)] = itoa q1) (zZ (Big.neg x) (bF q2 (zZ q4 (bF q5 (q6 ∧ bF q2 (zZ q8 (bF q9 (q13 ∧ bF (DB.db (q14 * 1 ≤ 140737488355328)) (bF (DB.db ((1 + lN q15 + lN q12) * 1 ≤ 140737488355328)) (bF q16 ((∃ (z : Nat), ((z < lN (Big.l x) ∧ z < lN (Big.l x) + 1) ∧ nat_lit 4 = 4 ∧ (nat_lit 3 = 3 ∧ 0 = 0) ∧ kI ∧ (lZ (Big.l x)) - iO - iO = (cI z) - iO) ∧
 ((((((q17 ∧ 174 = 174 ∧ 2 = 2 ∧ (1 = 1 ∧ 0 = 0) ∧ nat_lit 7 = 7 ∧ 0 = 0 ∧ lN (zF x z) = 1 + lN q15 + lN q12) ∧ True) ∧ 50 = 50 ∧ 1 = 1 ∧ zi q18 q18) ∧ lR) ∧ True) ∧ True) ∧ (5 : TypeId) = 5 ∧ 1 = 1 ∧ lN (zF x z) = 1 + lN q15 + lN q12 ∧ ∀ (i j : Nat), i < 1 + lN q15 + lN q12 → j < 1 → zi (if i < 1 + lN q15 then if i < 1 then Sx.rowAt [fun (x : Nat) => AV.v (Value.int IntKind.u8 (45 : Int))] i j else a8 (gD q15 (i
 - 1) (0 : UInt8)) else a8 (gD q12 (i - q14) (0 : UInt8))) (a8 (gD (zF x z) i (0 : UInt8)))) ∧ ∀ (z : Nat), let q21 := (itoa (gD (Big.l x) (Int.toNat ((cI z) - iO)) zR.dflt)); let q20 := (lZ q21); let q19 := ((9 : Int) - q20); let q23 := (List.replicate (Int.toNat q19) (48 : UInt8)); let q22 := (lN (zF x z) + lN q23); let q24 := (dK ((cI z) - iO - iO)); z < lN (Big.l x) → zZ
 (leB iZ ((cI z) - iO)) (bF (DB.db (iZ ≤ (cI z) - iO ∧ (cI z) - iO < (lZ (Big.l x)))) ((iN ≤ gD (Big.l x) (Int.toNat ((cI z) - iO)) zR.dflt ∧ gD (Big.l x) (Int.toNat ((cI z) - iO)) zR.dflt ≤ iX) ∧ bF q2 (zZ (zM ((cI z) - iO) q3) (bF (dK q19) ((iZ ≤ (9 : Int) - q20 ∧ (9 : Int) - q20 ≤ (14 : Int)) ∧ bF (DB.db (q22 * 1 ≤ 140737488355328)) (bF (DB.db ((lN (zF x z) + lN q23
 + lN q21) * 1 ≤ 140737488355328)) (bF q24 (∃ (z' : Nat), ((z' < lN (Big.l x) ∧ z' < z) ∧ nat_lit 4 = 4 ∧ (nat_lit 3 = 3 ∧ 0 = 0) ∧ kI ∧ (cI z) - iO - iO = (cI z') - iO) ∧ ((((((q17 ∧ 174 = 174 ∧ 2 = 2 ∧ (1 = 1 ∧ 0 = 0) ∧ nat_lit 7 = 7 ∧ 0 = 0 ∧ lN (zF x z') = lN (zF x z) + lN q23 + lN q21) ∧ True) ∧ 50 = 50 ∧ 1 = 1 ∧ zi q18 q18) ∧ lR) ∧ True) ∧ True) ∧ (5 : TypeId) = 5 ∧ 1 = 1 ∧ lN (zF x z') = lN (zF x z) +
 lN q23 + lN q21 ∧ ∀ (i j : Nat), i < lN (zF x z) + lN q23 + lN q21 → j < 1 → zi (if i < lN (zF x z) + lN q23 then if i < lN (zF x z) then a8 (gD (zF x z) i (0 : UInt8)) else a8 (gD q23 (i - lN (zF x z)) (0 : UInt8)) else a8 (gD q21 (i - q22) (0 : UInt8))) (AV.v (Value.int IntKind.u8 (↑(UInt8.toNat (gD (zF x z') i (0 : UInt8))) :
 Int)))))))) (bF (DB.db ((lN (zF x z) + lN q21) * 1 ≤ 140737488355328)) (bF q24 (∃ (z' : Nat), ((z' < lN (Big.l x) ∧ z' < z) ∧ nat_lit 4 = 4 ∧ (nat_lit 3 = 3 ∧ 0 = 0) ∧ kI ∧ (cI z) - iO - iO = (cI z') - iO) ∧ ((((((q17 ∧ 174 = 174 ∧ 2 = 2 ∧ (1 = 1 ∧ 0 = 0) ∧ nat_lit 7 = 7 ∧ 0 = 0 ∧ lN (zF x z') = lN (zF x z) + lN q21) ∧ True) ∧ 50 = 50 ∧ 1 = 1 ∧ zi q18 q18) ∧ lR) ∧ True) ∧ True) ∧ (5 : TypeId) = 5 ∧ 1 = 1 ∧
 lN (zF x z') = lN (zF x z) + lN q21 ∧ ∀ (i j : Nat), i < lN (zF x z) + lN q21 → j < 1 → zi (if i < lN (zF x z) then a8 (gD (zF x z) i (0 : UInt8)) else a8 (gD q21 (i - lN (zF x z)) (0 : UInt8))) (a8 (gD (zF x z') i (0 : UInt8))))))))) (0 < lN (zF x z) ∧ ∃ (l : List UInt8), lN l = lN (zF x z) ∧ (∀ (i :
 Nat), i < lN (zF x z) → a8 (gD (zF x z) i (0 : UInt8)) = a8 (gD l i (0 : UInt8))) ∧ l = itoa q1)))))) (bF (DB.db ((1 + lN q12) * 1 ≤ 140737488355328)) (bF q16 ((∃ (z : Nat), ((z < lN (Big.l x) ∧ z < lN (Big.l x) + 1) ∧ nat_lit 4 = 4 ∧ (nat_lit 3 = 3 ∧ 0 = 0) ∧ kI ∧ (lZ (Big.l x)) - iO - iO = (cI z) - iO) ∧ (((((q17 ∧ 174 = 174 ∧ 2 = 2 ∧ (1 = 1 ∧ 0 = 0) ∧
 nat_lit 6 = 6 ∧ 0 = 0 ∧ lN (zF x z) = 1 + lN q12) ∧ True) ∧ 50 = 50 ∧ 1 = 1 ∧ zi q18 q18) ∧ lR) ∧ True) ∧ (5 : TypeId) = 5 ∧ 1 = 1 ∧ lN (zF x z) = 1 + lN q12 ∧ ∀ (i j : Nat), i < 1 + lN q12 → j < 1 → zi (if i < 1 then Sx.rowAt [fun (x : Nat) => AV.v (Value.int IntKind.u8 (45 : Int))] i j else a8 (gD q12 (i - 1) (0 : UInt8))) (a8 (gD (zF x z) i (0 : UInt8)))) ∧ ∀ (z : Nat), let q27
 := (itoa (gD (Big.l x) (Int.toNat ((cI z) - iO)) zR.dflt)); let q26 := (lZ q27); let q25 := ((9 : Int) - q26); let q29 := (List.replicate (Int.toNat q25) (48 : UInt8)); let q28 := (lN (zF x z) + lN q29); let q30 := (dK ((cI z) - iO - iO)); z < lN (Big.l x) → zZ (leB iZ ((cI z) - iO)) (bF (DB.db (iZ ≤ (cI z) - iO ∧ (cI z) - iO < (lZ (Big.l x)))) ((iN ≤ gD (Big.l x) (Int.toNat ((cI z) - (1 :
 Int))) zR.dflt ∧ gD (Big.l x) (Int.toNat ((cI z) - iO)) zR.dflt ≤ iX) ∧ bF q2 (zZ (zM ((cI z) - iO) q3) (bF (dK q25) ((iZ ≤ (9 : Int) - q26 ∧ (9 : Int) - q26 ≤ (14 : Int)) ∧ bF (DB.db (q28 * 1 ≤ 140737488355328)) (bF (DB.db ((lN (zF x z) + lN q29 + lN q27) * 1 ≤ 140737488355328)) (bF q30 (∃ (z' : Nat), ((z' < lN (Big.l x) ∧ z' < z) ∧ nat_lit 4 = 4 ∧ (nat_lit 3 = 3 ∧ 0 = 0) ∧ kI ∧ (cI z) - iO - iO = (cI z') - iO)
 ∧ (((((q17 ∧ 174 = 174 ∧ 2 = 2 ∧ (1 = 1 ∧ 0 = 0) ∧ nat_lit 6 = 6 ∧ 0 = 0 ∧ lN (zF x z') = lN (zF x z) + lN q29 + lN q27) ∧ True) ∧ 50 = 50 ∧ 1 = 1 ∧ zi q18 q18) ∧ lR) ∧ True) ∧ (5 : TypeId) = 5 ∧ 1 = 1 ∧ lN (zF x z') = lN (zF x z) + lN q29 + lN q27 ∧ ∀ (i j : Nat), i < lN (zF x z) + lN q29 + lN q27 → j < 1 → zi (if i < lN (zF x z) + lN q29 then if i < lN (zF x z) then AV.v (Value.int IntKind.u8
 (cI (UInt8.toNat (gD (zF x z) i (0 : UInt8))))) else a8 (gD q29 (i - lN (zF x z)) (0 : UInt8)) else a8 (gD q27 (i - q28) (0 : UInt8))) (a8 (gD (zF x z') i (0 : UInt8)))))))) (bF (DB.db ((lN (zF x z) + lN q27) * 1 ≤ 140737488355328)) (bF q30 (∃ (z' : Nat), ((z' < lN (Big.l x) ∧ z' < z) ∧ nat_lit 4 = 4 ∧ (nat_lit 3 = 3 ∧ 0 = 0) ∧ kI
 ∧ (cI z) - iO - iO = (cI z') - iO) ∧ (((((q17 ∧ 174 = 174 ∧ 2 = 2 ∧ (1 = 1 ∧ 0 = 0) ∧ nat_lit 6 = 6 ∧ 0 = 0 ∧ lN (zF x z') = lN (zF x z) + lN q27) ∧ True) ∧ 50 = 50 ∧ 1 = 1 ∧ zi q18 q18) ∧ lR) ∧ True) ∧ (5 : TypeId) = 5 ∧ 1 = 1 ∧ lN (zF x z') = lN (zF x z) + lN q27 ∧ ∀ (i j : Nat), i < lN (zF x z) + lN q27 → j < 1 → zi (if i < lN (zF x z) then a8 (gD (zF x z) i (0 :
 UInt8)) else a8 (gD q27 (i - lN (zF x z)) (0 : UInt8))) (a8 (gD (zF x z') i (0 : UInt8))))))))) (0 < lN (zF x z) ∧ ∃ (l : List UInt8), lN l = lN (zF x z) ∧ (∀ (i : Nat), i < lN (zF x z) → a8 (gD (zF x z) i (0 : UInt8)) = a8 (gD l i (0 : UInt8))) ∧ l = itoa q1)))))))
 (0 < 1 ∧ ∃ (l : List UInt8), lN l = 1 ∧ (∀ (i : Nat), i < 1 → Sx.rowAt [fun (x : Nat) => AV.v (Value.int IntKind.u8 (45 : Int))] i 0 = a8 (gD l i (0 : UInt8))) ∧ l = itoa q1))) (bF q2 (zZ q4 (bF q5 (q6 ∧ bF q2 (zZ q8 (bF q9 (q13 ∧ bF (DB.db (lN q15 * 1 ≤ 140737488355328)) (bF (DB.db ((lN q15 + lN q12) * 1 ≤ 140737488355328)) (bF q16 ((∃ (z : Nat), ((z < lN (Big.l x) ∧ z < lN (Big.l x) + 1) ∧ nat_lit 3 = 3 ∧ (nat_lit 2 = 2 ∧ 0 = 0) ∧ IntKind.i64 =
 .i64 ∧ (lZ (Big.l x)) - iO - iO = (cI z) - iO) ∧ (((((q17 ∧ 174 = 174 ∧ 2 = 2 ∧ (1 = 1 ∧ 0 = 0) ∧ nat_lit 6 = 6 ∧ 0 = 0 ∧ lN (zF x z) = lN q15 + lN q12) ∧ 50 = 50 ∧ 1 = 1 ∧ zi q18 q18) ∧ lR) ∧ True) ∧ True) ∧ (5 : TypeId) = 5 ∧ 1 = 1 ∧ lN (zF x z) = lN q15 + lN q12 ∧ ∀ (i j : Nat), i < lN q15 + lN q12 → j < 1 → zi (if i < lN q15 then a8 (gD q15 i (0 : UInt8))
 else a8 (gD q12 (i - lN q15) (0 : UInt8))) (a8 (gD (zF x z) i (0 : UInt8)))) ∧ ∀ (z : Nat), let q33 := (itoa (gD (Big.l x) (Int.toNat ((cI z) - iO)) zR.dflt)); let q32 := (lZ q33); let q31 := ((9 : Int) - q32); let q35 := (List.replicate (Int.toNat q31) (48 : UInt8)); let q34 := (lN (zF x z) + lN q35); let q36 := (dK ((cI z) - iO - iO)); z < lN (Big.l x) → zZ (leB iZ
 ((cI z) - iO)) (bF (DB.db (iZ ≤ (cI z) - iO ∧ (cI z) - iO < (lZ (Big.l x)))) ((iN ≤ gD (Big.l x) (Int.toNat ((cI z) - iO)) zR.dflt ∧ gD (Big.l x) (Int.toNat ((cI z) - iO)) zR.dflt ≤ iX) ∧ bF q2 (zZ (zM ((cI z) - iO) q3) (zZ (dK q31) ((iZ ≤ (9 : Int) - q32 ∧ (9 : Int) - q32 ≤ (14 : Int)) ∧ bF (DB.db (q34 * 1 ≤ 140737488355328)) (bF (DB.db ((lN (zF x z) + lN q35 + List.length
 q33) * 1 ≤ 140737488355328)) (bF q36 (∃ (z' : Nat), ((z' < lN (Big.l x) ∧ z' < z) ∧ nat_lit 3 = 3 ∧ (nat_lit 2 = 2 ∧ 0 = 0) ∧ kI ∧ (cI z) - iO - iO = (cI z') - iO) ∧ (((((q17 ∧ 174 = 174 ∧ 2 = 2 ∧ (1 = 1 ∧ 0 = 0) ∧ nat_lit 6 = 6 ∧ 0 = 0 ∧ lN (zF x z') = lN (zF x z) + lN q35 + lN q33) ∧ 50 = 50 ∧ 1 = 1 ∧ zi q18 q18) ∧ lR) ∧ True) ∧ True) ∧ (5 : TypeId) = 5 ∧ 1 = 1 ∧ lN (zF x z') = lN (zF x z) + lN q35 + List.length
 q33 ∧ ∀ (i j : Nat), i < lN (zF x z) + lN q35 + lN q33 → j < 1 → zi (if i < lN (zF x z) + lN q35 then if i < lN (zF x z) then a8 (gD (zF x z) i (0 : UInt8)) else a8 (gD q35 (i - lN (zF x z)) (0 : UInt8)) else a8 (gD q33 (i - q34) (0 : UInt8))) (a8 (gD (zF x z') i (0 : UInt8)))))))
 False) (bF (DB.db ((lN (zF x z) + lN q33) * 1 ≤ 140737488355328)) (bF q36 (∃ (z' : Nat), ((z' < lN (Big.l x) ∧ z' < z) ∧ nat_lit 3 = 3 ∧ (nat_lit 2 = 2 ∧ 0 = 0) ∧ kI ∧ (cI z) - iO - iO = (cI z') - iO) ∧ (((((q17 ∧ 174 = 174 ∧ 2 = 2 ∧ (1 = 1 ∧ 0 = 0) ∧ nat_lit 6 = 6 ∧ 0 = 0 ∧ lN (zF x z') = lN (zF x z) + lN q33) ∧ 50 = 50 ∧ 1 = 1 ∧ zi q18 q18) ∧ lR) ∧ True) ∧ True) ∧ (5 : TypeId) = 5 ∧ 1 = 1 ∧ lN (zF x z') = List.length
 (zF x z) + lN q33 ∧ ∀ (i j : Nat), i < lN (zF x z) + lN q33 → j < 1 → zi (if i < lN (zF x z) then a8 (gD (zF x z) i (0 : UInt8)) else a8 (gD q33 (i - lN (zF x z)) (0 : UInt8))) (a8 (gD (zF x z') i (0 : UInt8))))))))) (0 < lN (zF x z) ∧ ∃ (l : List UInt8), lN l = lN (zF x z) ∧ (∀ (i : Nat), i < lN (zF x z) →
 a8 (gD (zF x z) i (0 : UInt8)) = a8 (gD l i (0 : UInt8))) ∧ l = itoa q1)))))) (bF (DB.db (lN q12 * 1 ≤ 140737488355328)) (bF q16 ((∃ (z : Nat), ((z < lN (Big.l x) ∧ z < lN (Big.l x) + 1) ∧ nat_lit 3 = 3 ∧ (nat_lit 2 = 2 ∧ 0 = 0) ∧ kI ∧ (lZ (Big.l x)) - iO - iO = (cI z) - iO) ∧ ((((q17 ∧ 174 = 174 ∧ 2 = 2 ∧ (1 = 1 ∧ 0 = 0) ∧ nat_lit 5 = 5 ∧ 0 = 0 ∧ lN (zF x
 z) = lN q12) ∧ 50 = 50 ∧ 1 = 1 ∧ zi q18 q18) ∧ lR) ∧ True) ∧ (5 : TypeId) = 5 ∧ 1 = 1 ∧ lN (zF x z) = lN q12 ∧ ∀ (i j : Nat), i < lN q12 → j < 1 → IntKind.u8 = IntKind.u8 ∧ (cI (UInt8.toNat (gD q12 i (0 : UInt8)))) = (cI (UInt8.toNat (gD (zF x z) i (0 : UInt8))))) ∧ ∀ (z : Nat), let q39 := (itoa (gD (Big.l x) (Int.toNat ((cI z) - iO)) zR.dflt)); let q38 := (lZ q39); let q37 := ((9 : Int) - q38); let q41 := (List.replicate (Int.toNat q37) (48 :
 UInt8)); let q40 := (lN (zF x z) + lN q41); let q42 := (dK ((cI z) - iO - iO)); z < lN (Big.l x) → zZ (leB iZ ((cI z) - iO)) (bF (DB.db (iZ ≤ (cI z) - iO ∧ (cI z) - iO < (lZ (Big.l x)))) ((iN ≤ gD (Big.l x) (Int.toNat ((cI z) - iO)) zR.dflt ∧ gD (Big.l x) (Int.toNat ((cI z) - iO)) zR.dflt ≤ iX) ∧ bF q2 (zZ (zM ((cI z) - iO) q3) (bF (DB.db (ZB .i64
 q37)) ((iZ ≤ (9 : Int) - q38 ∧ (9 : Int) - q38 ≤ (14 : Int)) ∧ bF (DB.db (q40 * 1 ≤ 140737488355328)) (bF (DB.db ((lN (zF x z) + lN q41 + lN q39) * 1 ≤ 140737488355328)) (bF q42 (∃ (z' : Nat), ((z' < lN (Big.l x) ∧ z' < z) ∧ nat_lit 3 = 3 ∧ (nat_lit 2 = 2 ∧ 0 = 0) ∧ kI ∧ (cI z) - iO - iO = (cI z') - iO) ∧ ((((q17 ∧ 174 = 174 ∧ 2 = 2 ∧ (1 = 1 ∧ 0 = 0) ∧ nat_lit 5 = 5 ∧ 0 = 0 ∧ lN (zF x z') = lN (zF x z) + lN q41 + lN q39) ∧ 50 = 50 ∧ 1 = 1 ∧ zi q18 q18) ∧
 lR) ∧ True) ∧ (5 : TypeId) = 5 ∧ 1 = 1 ∧ lN (zF x z') = lN (zF x z) + lN q41 + lN q39 ∧ ∀ (i j : Nat), i < lN (zF x z) + lN q41 + lN q39 → j < 1 → zi (if i < lN (zF x z) + lN q41 then if i < lN (zF x z) then a8 (gD (zF x z) i (0 : UInt8)) else a8 (gD q41 (i - lN (zF x z)) (0 : UInt8)) else AV.v (Value.int IntKind.u8
 (cI (UInt8.toNat (gD q39 (i - q40) (0 : UInt8)))))) (a8 (gD (zF x z') i (0 : UInt8)))))))) (bF (DB.db ((lN (zF x z) + lN q39) * 1 ≤ 140737488355328)) (zZ q42 (∃ (z' : Nat), ((z' < lN (Big.l x) ∧ z' < z) ∧ nat_lit 3 = 3 ∧ (nat_lit 2 = 2 ∧ 0 = 0) ∧ kI ∧ (cI z) - iO - iO = (cI z') - iO) ∧ ((((q17 ∧ 174 = 174 ∧ 2 = 2 ∧ (1 = 1 ∧ 0 = 0) ∧ nat_lit 5 = 5 ∧ 0 = 0 ∧ lN (zF x z') = lN (zF x z) + lN q39)
 ∧ 50 = 50 ∧ 1 = 1 ∧ zi q18 q18) ∧ lR) ∧ True) ∧ (5 : TypeId) = 5 ∧ 1 = 1 ∧ lN (zF x z') = lN (zF x z) + lN q39 ∧ ∀ (i j : Nat), i < lN (zF x z) + lN q39 → j < 1 → zi (if i < lN (zF x z) then a8 (gD (zF x z) i (0 : UInt8)) else a8 (gD q39 (i - lN (zF x z)) (0 : UInt8))) (a8 (gD (zF x z') i (0 : UInt8))))
 False))))) (0 < lN (zF x z) ∧ ∃ (l : List UInt8), lN l = lN (zF x z) ∧ (∀ (i : Nat), i < lN (zF x z) → a8 (gD (zF x z) i (0 : UInt8)) = a8 (gD l i (0 : UInt8))) ∧ l = itoa q1))))))) ([] = itoa q1)))) := by
 delta bF dK bA a8 xI lR cI kI lZ lN gD iZ iO iX iN iB
 dsimp only
 intro hb
 have e0 : (zR.dflt : Int) = 0 := rfl
 simp only [↓Zf, ↓Zu, row_one]
 simp only [sS, dS, e0]
 refine ⟨fun hz => ?_, fun hz => ?_⟩
 ·have he : x.l = [] := List.eq_nil_of_length_eq_zero (by omega)
  rw [he]
  have : itoa ((0 : Nat) : Int) = [48] := by rw [Go.Ar.Z0, ZZ (by omega)]; rfl
  cases x.neg <;> exact this.symm
 have h0 : 0 < x.l.length := by omega
 have en : ((x.l.length : Int) - 1).toNat = x.l.length - 1 := by omega
 have ez : ∀ z : Nat, ((z : Int) - 1).toNat = z - 1 := fun z => by omega
 simp only [en, ez, Nat.mul_one]
 have gN := hx.get (by omega) (x.l.length - 1)
 obtain ⟨i1, i2, i3⟩ := vY gN.1 gN.2
 have f1 := Mu hx h0
 refine zY.2 ⟨fun c => ⟨⟨by omega, by omega⟩, fun _ => ⟨⟨by omega, by omega⟩, ⟨by omega, by omega⟩, ⟨by omega, by omega⟩, fun h => absurd h (by omega), fun _ => ⟨by omega, ⟨by omega, by omega⟩, ⟨x.l.length - 1, ⟨⟨by omega, by omega⟩, by omega⟩, ?_, ?_, fun i j _ _ => ?_⟩, ?_⟩⟩, fun h => absurd h (by omega)⟩,
  fun c => ⟨⟨by omega, by omega⟩, fun _ => ⟨⟨by omega, by omega⟩, ⟨by omega, by omega⟩, ⟨by omega, by omega⟩, fun h => absurd h (by omega), fun _ => ⟨by omega, ⟨by omega, by omega⟩, ⟨x.l.length - 1, ⟨⟨by omega, by omega⟩, by omega⟩, ?_, ?_, fun i j _ _ => ?_⟩, ?_⟩⟩, fun h => absurd h (by omega)⟩⟩
 all_goals try rw [c] at f1
 ·rw [f1]; simp only [cond_true, List.length_append, List.length_singleton]
 ·rw [f1]; simp only [cond_true, List.length_append, List.length_singleton]
 ·rw [f1]; exact eX 45 _ i
 rotate_left
 ·rw [f1]; rfl
 ·rw [f1]; rfl
 ·rw [f1]; rfl
 all_goals
  intro z hz1
  have wl := H1 hx z
  refine ⟨fun hz2 => ?_, fun hz2 => ?_⟩
  ·have g := hx.get (by omega) (z - 1)
   obtain ⟨g1, g2, g3⟩ := vY g.1 g.2
   have hs := kf hx ht (z := z) (by omega) hz1
   have lr : (List.replicate (9 - ((itoa (x.l.getD (z - 1) 0)).length : Int)).toNat (48 : UInt8)).length ≤ 8 := by rw [List.length_replicate]; omega
   refine ⟨⟨by omega, by omega⟩, ⟨by omega, by omega⟩, ⟨by omega, by omega⟩, fun _ => ⟨⟨by omega, by omega⟩, ⟨by omega, by omega⟩, by omega, by omega, ⟨by omega, by omega⟩, z - 1, ⟨⟨by omega, by omega⟩, by omega⟩, ?_, ?_, fun i j _ _ => ?_⟩, fun h => absurd h (by omega)⟩
   ·rw [hs, List.length_append, List.length_append]
   ·rw [hs, List.length_append, List.length_append]
   ·rw [hs]; exact FE _ _ _ i
  ·obtain rfl : z = 0 := by omega
   obtain ⟨w1, w2⟩ := iu hx ht h0
   exact ⟨w2, zF x 0, rfl, fun _ _ => rfl, w1⟩
theorem mZ {G : List (Nat × Obj)} (hG : zO G) (x : Big) (hx : ZR 1000000000 x.l) (ht : zf x.l = x.l) (hl : x.l.length ≤ 100000000) : zv Tryz.prog G 160 [yD x] (.str (itoa (bif x.neg then - zt 1000000000 x.l else zt 1000000000 x.l))) :=
 zW (T := Ey G) (an := H3 x) mixed (OA hG) (Eq.mp (by kernel_rfl) (OF G x hx ht hl))
theorem Lv {G : List (Nat × Obj)} (hG : zO G) : zQ Tryz.prog G 160 Tn := by
 intro xs ps r h hp
 unfold Tn at h
 split at h
 ·skip
  rename_i x_x
  cases h
  obtain ⟨q0, q1, q2, q3, -⟩ := ZT hp
  exact weaken (ys := [yD (yR (α := Big) x_x)]) ⟨zD q0, trivial⟩ (mZ hG (yR (α := Big) x_x) q1 q2 q3)
 ·cases h
end Go.Te

namespace Go.Te
open Go Go.Sx Go.Proofs Go.Ar
set_option maxRecDepth 100000
set_option maxHeartbeats 4000000
def YY (n : Bool) (l : List Int) : Int := bif n then - zt 1000000000 l else zt 1000000000 l
theorem lM (x : Big) : yR (AV.agg 2 fun i => zR.enc x i) = x := Um x
theorem OQ (x : Big) : yo Big (AV.agg 2 fun i => zR.enc x i) = true := Vg x
theorem ME (n : Int) : (zp (Lib.itoa n)).length = Xu n := by
 obtain ⟨h1, h2⟩ := za n
 rw [← (Sd (Lib.itoa n)).2, wo h1, h2]
def vZ : List AV → Option (List zN × AV)
 | [x_x] => some ([.b (yo Big x_x), .p (ZR 1000000000 (yR (α := Big) x_x).l), .p (zf (yR (α := Big) x_x).l = (yR (α := Big) x_x).l), .p ((yR (α := Big) x_x).l.length ≤ 100000000)], .tup 2 (zw [.str (Yg (YY (yR (α := Big) x_x).neg (yR (α := Big) x_x).l)), .i (ZN (YY (yR (α := Big) x_x).neg (yR (α := Big) x_x).l))]))
 | _ => none
theorem QB (G : List (Nat × Obj)) (x : Big) (hx : ZR 1000000000 x.l) (ht : zf x.l = x.l) (hl : x.l.length ≤ 100000000) :
 let q1 := (AV.agg 2 fun (i : Nat) => zR.enc x (0 + i)); let q3 := (yR q1); let q2 := (Big.l q3); let q4 := (bif Big.neg q3 then -zt iB q2 else zt iB q2); zB [AV.agg 2 (zR.enc x)] → bF (yo Big q1) ((∀ (x_1 : Int), List.Mem x_1 q2 → iZ ≤ x_1 ∧ x_1 < iB) ∧ zf q2 = Big.l q3 ∧ lN q2 ≤ 100000000 ∧ zZ (zM (300 : Int) (lZ (zp (Lib.itoa q4)))) (j2 ∧ (True ∧ bA #[] = Yg (YY (Big.neg x) (Big.l x))) ∧ kI ∧ (4
 : Int) = ZN (YY (Big.neg x) (Big.l x))) (j2 ∧ (True ∧ Lib.itoa q4 = Yg (YY (Big.neg x) (Big.l x))) ∧ kI ∧ iZ = ZN (YY (Big.neg x) (Big.l x)))) := by
 delta bF bA kI j2 lZ lN iZ iB
 dsimp only
 intro hb
 have e0 : (zR.dflt : Int) = 0 := rfl
 simp only [↓Zf, ↓Zu, row_one]
 simp only [sS, dS, e0, lM, OQ]
 refine ⟨hx, ht, hl, fun h => ?_, fun h => ?_⟩
 all_goals
  have hn := ME (YY x.neg x.l)
  unfold YY at hn
  rw [hn] at h
  unfold Yg ZN YY
 ·rw [(Zx _ _).2 (show 300 < Xu _ by omega)]
  exact ⟨rfl, rfl, rfl⟩
 ·rw [show Nat.blt 300 (Xu (bif x.neg then - zt 1000000000 x.l else zt 1000000000 x.l)) = false from Bool.eq_false_iff.2 fun e => by have := (Zx _ _).1 e; omega]
  exact ⟨rfl, rfl, rfl⟩
theorem OH {G : List (Nat × Obj)} (hG : zO G) (x : Big) (hx : ZR 1000000000 x.l) (ht : zf x.l = x.l) (hl : x.l.length ≤ 100000000) : zv Tryz.prog G 100 [yD x] (.tup 2 (zw [.str (Yg (YY x.neg x.l)), .i (ZN (YY x.neg x.l))])) :=
 zW (T := ((LC G).plus 160 Tn).plus 83 (Yq fun s => .str (zp s))) (an := .auto) mixed (zz.plus (zz.plus (YK hG) (Lv hG)) (zQ.mono W1)) (Eq.mp (by kernel_rfl) (QB G x hx ht hl))
theorem ss {G : List (Nat × Obj)} (hG : zO G) : zQ Tryz.prog G 100 vZ := by
 intro xs ps r h hp
 unfold vZ at h
 split at h
 ·skip
  rename_i x_x
  cases h
  obtain ⟨q0, q1, q2, q3, -⟩ := ZT hp
  exact weaken (ys := [yD (yR (α := Big) x_x)]) ⟨zD q0, trivial⟩ (OH hG (yR (α := Big) x_x) q1 q2 q3)
 ·cases h
def Ul (xs : List AV) : Option (List zN × AV) :=
 match Rp xs with
 | some r => some r
 | none => rR xs
theorem Pe : zQ Tryz.prog [] 137 Ul := by
 intro xs ps r h hp
 unfold Ul at h
 split at h
 ·rename_i r' h'
  cases h
  exact KP _ _ _ h' hp
 ·exact Kr _ _ _ h hp
noncomputable def EO : Tb := (T0.plus 137 Ul).plus 139 UA
theorem O1 : zz Tryz.prog EO := zz.plus (zz.plus zr Pe) po
def oM (x y : Big) : Bool := bif x.neg == y.neg then x.neg else bif leB 0 (cmpL x.l y.l) then x.neg else y.neg
def Rb (x y : Big) : Int := bif x.neg == y.neg then zt 1000000000 x.l + zt 1000000000 y.l else bif leB 0 (cmpL x.l y.l) then zt 1000000000 x.l - zt 1000000000 y.l else zt 1000000000 y.l - zt 1000000000 x.l
theorem qJ {x y : List Int} (hx : ZR 1000000000 x) (hy : ZR 1000000000 y) (tx : zf x = x) (ty : zf y = y) : (0 ≤ cmpL x y ↔ zt 1000000000 y ≤ zt 1000000000 x) := by
 have e1 : x = zT 1000000000 (zt 1000000000 x).toNat := wT (b := 1000000000) (by omega) hx tx
 have e2 : y = zT 1000000000 (zt 1000000000 y).toNat := wT (b := 1000000000) (by omega) hy ty
 have v1 := zd (b := 1000000000) (by omega) hx
 have v2 := zd (b := 1000000000) (by omega) hy
 have c := (nz (b := 1000000000) (by omega) (zt 1000000000 x).toNat (zt 1000000000 y).toNat).1
 rw [← e1, ← e2] at c
 omega
def PK : List AV → Option (List zN × AV)
 | [x_x, x_y] => some ([.b (yo Big x_x), .b (yo Big x_y), .p (ZR 1000000000 (yR (α := Big) x_x).l), .p (ZR 1000000000 (yR (α := Big) x_y).l), .p (zf (yR (α := Big) x_x).l = (yR (α := Big) x_x).l), .p (zf (yR (α := Big) x_y).l = (yR (α := Big) x_y).l), .p ((yR (α := Big) x_x).l.length ≤ 1000000000), .p ((yR (α := Big) x_y).l.length ≤ 1000000000)], .agg 2 (zw [.b (oM (yR (α := Big) x_x) (yR (α := Big) x_y)), Zl (zT 1000000000 (Rb (yR (α := Big) x_x) (yR (α := Big) x_y)).toNat)]))
 | _ => none
theorem kx (x : Big) (y : Big) (hx : ZR 1000000000 x.l) (hy : ZR 1000000000 y.l) (tx : zf x.l = x.l) (ty : zf y.l = y.l) (lx : x.l.length ≤ 1000000000) (ly : y.l.length ≤ 1000000000) :
 let q2 := (xI (Big.l x)); let q1 := (ze Int q2); let q4 := (xI (Big.l y)); let q3 := (ze Int q4); let q6 := (zU q2); let q5 := (∀ (x_1 : Int), List.Mem x_1 q6 → iZ ≤ x_1 ∧ x_1 < iB); let q8 := (zU q4); let q7 := (∀ (x : Int), List.Mem x q8 → iZ ≤ x ∧ x < iB); let q9 := (zT 1000000000 (Int.toNat (Rb x y))); let q10 := (zT 1000000000 (Int.toNat (zt
 iB q6 + zt iB q8))); let q11 := (zT 1000000000 (Int.toNat (zt iB q6 - zt iB q8))); let q12 := (zT 1000000000 (Int.toNat (zt iB q8 - zt iB q6))); zB [AV.agg 2 (zR.enc x), AV.agg 2 (zR.enc y)] → zZ (Big.neg x == Big.neg y) (bF q1 (bF q3 (q5 ∧ q7 ∧ lN q6 ≤ 1000000000 ∧ lN q8 ≤ 1000000000 ∧ 2 = 2 ∧ Big.neg x = oM x y ∧ (false = true → false = true) ∧ 1 = 1 ∧ lN q9 = lN q10 ∧ ∀ (i j : Nat), i < lN q10 → j < 1 → IntKind.i64 =
 .i64 ∧ gD q10 i zR.dflt = gD q9 i zR.dflt))) (bF q1 (bF q3 (q5 ∧ q7 ∧ zZ (leB iZ (cmpL q6 q8)) (bF q1 (bF q3 (q5 ∧ q7 ∧ lN q6 ≤ 1000000000 ∧ lN q8 ≤ 1000000000 ∧ zt iB q8 ≤ zt iB q6 ∧ 2 = 2 ∧ Big.neg x = oM x y ∧ (false = true → false = true) ∧ 1 = 1 ∧ lN q9 = lN q11 ∧ ∀ (i j : Nat), i < lN q11 → j < 1 → kI ∧ gD q11 i zR.dflt = gD q9 i zR.dflt))) (bF q3 (bF q1 (q7 ∧ q5 ∧ lN q8 ≤ 1000000000 ∧
 lN q6 ≤ 1000000000 ∧ zt iB q6 ≤ zt iB q8 ∧ 2 = 2 ∧ Big.neg y = oM x y ∧ (false = true → false = true) ∧ 1 = 1 ∧ lN q9 = lN q12 ∧ ∀ (i j : Nat), i < lN q12 → j < 1 → kI ∧ gD q12 i zR.dflt = gD q9 i zR.dflt)))))) := by
 delta bF xI kI lN gD iZ iB
 dsimp only
 intro hb
 have e0 : (zR.dflt : Int) = 0 := rfl
 simp only [↓Zf, ↓Zu, row_one]
 simp only [sS, dS, e0]
 refine zY.2 ⟨fun c => ⟨hx, hy, lx, ly, ?_, fun h => h, ?_, fun i j _ _ => ?_⟩, fun c => ⟨hx, hy, fun h => ⟨hx, hy, lx, ly, (qJ hx hy tx ty).1 h, ?_, fun h => h, ?_, fun i j _ _ => ?_⟩, fun h => ⟨hy, hx, ly, lx, ?_, ?_, fun h => h, ?_, fun i j _ _ => ?_⟩⟩⟩
 any_goals (unfold oM; rw [c]; first | rfl | (rw [show leB 0 (cmpL x.l y.l) = true from (z8 _ _).2 h]; rfl) | (rw [show leB 0 (cmpL x.l y.l) = false from Bool.eq_false_iff.2 fun e => by have := (z8 _ _).1 e; omega]; rfl))
 any_goals (unfold Rb; rw [c]; first | rfl | (rw [show leB 0 (cmpL x.l y.l) = true from (z8 _ _).2 h]; rfl) | (rw [show leB 0 (cmpL x.l y.l) = false from Bool.eq_false_iff.2 fun e => by have := (z8 _ _).1 e; omega]; rfl))
 have := qJ hx hy tx ty
 omega
theorem I7 (x : Big) (y : Big) (hx : ZR 1000000000 x.l) (hy : ZR 1000000000 y.l) (tx : zf x.l = x.l) (ty : zf y.l = y.l) (lx : x.l.length ≤ 1000000000) (ly : y.l.length ≤ 1000000000) : zv Tryz.prog [] 88 [yD x, yD y] (.agg 2 (zw [.b (oM x y), Zl (zT 1000000000 (Rb x y).toNat)])) :=
 zW (T := EO) (an := .auto) mixed O1 (Eq.mp (by kernel_rfl) (kx x y hx hy tx ty lx ly))
theorem HE : zQ Tryz.prog [] 88 PK := by
 intro xs ps r h hp
 unfold PK at h
 split at h
 ·skip
  rename_i x_x x_y
  cases h
  obtain ⟨q0, q1, q2, q3, q4, q5, q6, q7, -⟩ := ZT hp
  exact weaken (ys := [yD (yR (α := Big) x_x), yD (yR (α := Big) x_y)]) ⟨zD q0, zD q1, trivial⟩ (I7 (yR (α := Big) x_x) (yR (α := Big) x_y) q2 q3 q4 q5 q6 q7)
 ·cases h
theorem mh {x y : Big} (hx : ZR 1000000000 x.l) (hy : ZR 1000000000 y.l) (tx : zf x.l = x.l) (ty : zf y.l = y.l) :
  0 ≤ Rb x y ∧ (bif oM x y then - Rb x y else Rb x y) = YY x.neg x.l + YY y.neg y.l := by
 have v1 := zd (b := 1000000000) (by omega) hx
 have v2 := zd (b := 1000000000) (by omega) hy
 have c := qJ hx hy tx ty
 unfold oM Rb YY
 cases hl : leB 0 (cmpL x.l y.l) with
 | true =>
  rw [z8, c] at hl
  cases x.neg <;> cases y.neg <;> simp <;> omega
 | false =>
  have hl : ¬ 0 ≤ cmpL x.l y.l := fun e => by rw [(z8 _ _).2 e] at hl; cases hl
  rw [c] at hl
  cases x.neg <;> cases y.neg <;> simp <;> omega
end Go.Te

namespace Go.Te
open Go Go.Sx Go.Proofs Go.Ar
set_option maxRecDepth 100000
set_option maxHeartbeats 4000000
def ZJ : OB → List Int
 | .arr _ _ n els => (List.range n).map fun i => AV.int (els i 0)
 | _ => []
theorem FM (l : List Int) : ZJ (OB.arr 3 1 l.length fun i x => AV.v (Value.int IntKind.i64 (l.getD i 0))) = l := by
 have e : ((List.range l.length).map fun i => l.getD i 0) = l := by
  apply List.ext_getElem
  ·simp
  ·intro i h1 h2
   rw [List.getElem_map, List.getElem_range, List.getD_eq_getElem?_getD, List.getElem?_eq_getElem h2]
   rfl
 exact e
def SO  : yV :=
 .two .auto (.two (.one (.loop Nat (fun σ z => [(0, .ns (yC (σ.tm 0)) 0 z)]) (fun σ z => []) 0 (fun σ z => z ≤ (ZJ (σ.bl (yC (σ.tm 0)))).length ∧ ∀ i, z ≤ i → (ZJ (σ.bl (yC (σ.tm 0)))).getD i 0 = 0) (fun σ z => z) .auto)) .auto)
theorem sV {l : List Int} {z : Nat} (h1 : z ≤ l.length) (h2 : ∀ i, z ≤ i → l.getD i 0 = 0) (c : (zM 0 (z : Int) && l.getD ((z : Int) - 1).toNat 0 == 0) = false) : zf l = l.take z := by
 refine vU h1 h2 ?_
 by_cases hz : z = 0
 ·exact .inl hz
 ·refine .inr fun e => ?_
  rw [(zq _ _).2 (by omega), show ((z : Int) - 1).toNat = z - 1 by omega, e] at c
  cases c
theorem Sy {l : List Int} {z : Nat} (h2 : ∀ i, z ≤ i → l.getD i 0 = 0) (c : (zM 0 (z : Int) && l.getD ((z : Int) - 1).toNat 0 == 0) = true) : 0 < z ∧ ∀ i, z - 1 ≤ i → l.getD i 0 = 0 := by
 rw [Bool.and_eq_true, beq_iff_eq, zq] at c
 have c2 := c.2
 rw [show ((z : Int) - 1).toNat = z - 1 by omega] at c2
 refine ⟨by omega, fun i hi => ?_⟩
 by_cases e : i = z - 1
 ·rw [e]; exact c2
 ·exact h2 i (by omega)
theorem EL {l m : List Int} {z : Nat} (hz : z ≤ m.length) (h : m.take z = l) : zi (AV.xl false 1 z fun i x => AV.v (Value.int IntKind.i64 (m.getD i 0))) (AV.xl false 1 l.length fun i j => AV.v (Value.int IntKind.i64 (l.getD i 0))) := by
 have hl : z = l.length := by rw [← h, List.length_take]; omega
 rw [← hl]
 refine ⟨fun h => h, rfl, rfl, fun i j hi _ => ?_⟩
 rw [← h]
 show zi (AV.v (Value.int IntKind.i64 (m.getD i 0))) (AV.v (Value.int IntKind.i64 ((m.take z).getD i 0)))
 rw [Yb hi]
 exact zV _
noncomputable def eF : Tb := (T0.plus 136 vX).body Tryz.prog [(191, .auto), (136, SO)]
theorem nt : zz Tryz.prog eF := zz.body mixed (zz.plus zr Uo) _
structure Y2 where
 z : Nat
 q : List Int
 r : Int
def HK (a : List Int) (d : Int) : yV :=
 .two .auto (.one (.loop Y2 (fun σ z => [(0, σ.tm 0), (1, σ.tm 1), (3, .i ((z.z : Int) - 1))]) (fun _ z => [(2, u6 z.q), (3, .box 3 1 fun _ => .i z.r)]) 0
  (fun _ z => NP 1000000000 d a z.z z.q z.r) (fun _ z => z.z) .auto))
def gZ (a : List Int) (d : Int) : yV :=
 .two .auto (.two .auto (.two .auto (.two (.two .auto (.one (.range (HK a d) .auto .auto))) .auto)))
def Se : List AV → Option (List zN × AV)
 | [QG, .v (.int .i64 d)] => some ([.b (ze Int QG), .p (ZR 1000000000 (zU QG)), .p (0 < d ∧ d ≤ 1000000000), .p ((zU QG).length ≤ 1000000000)], .tup 2 (zw [Zl (zT 1000000000 ((zt 1000000000 (zU QG)).toNat / d.toNat)), Zl (zT 1000000000 ((zt 1000000000 (zU QG)).toNat % d.toNat))]))
 | _ => none
theorem Na (a : List Int) (d : Int) (ha : ZR 1000000000 a) (hd : 0 < d ∧ d ≤ 1000000000) (hl : a.length ≤ 1000000000) :
 let q1 := ((3 = 3 ∧ 1 = 1 ∧ kI ∧ d = d) ∧ 50 = 50 ∧ 1 = 1 ∧ nat_lit 2 = 2 ∧ 0 = 0 ∧ Int.toNat (lZ a) = Int.toNat (lZ a)); let q2 := (xI a); let q13 := (zT 1000000000 (Int.toNat (zt iB a) / Int.toNat d)); let q12 := (xI q13); let q17 := (zT 1000000000 (Int.toNat (zt iB a) % Int.toNat d)); let q16 := (AV.xl false 1 (lN q17) fun i
 j => aI (gD q17 i zR.dflt)); zB [xI a, aI d] → bF (DB.db (iZ ≤ (lZ a) ∧ (lZ a) ≤ (lZ a) ∧ (↑8 : Int) * (lZ a) ≤ (140737488355328 : Int))) (bF (dK ((lZ a) - iO)) ((∃ (z : Y2), (NP iB d a (Y2.z z) (Y2.q z) (Y2.r z) ∧ nat_lit 5 = 5 ∧ (nat_lit 4 = 4 ∧ 0 = 0) ∧ kI ∧ (lZ a) - iO =
 (cI (Y2.z z)) - iO) ∧ (((q1 ∧ (3 : TypeId) = 3 ∧ 1 = 1 ∧ lN (Y2.q z) = Int.toNat (lZ a) ∧ ∀ (i j : Nat), i < Int.toNat (lZ a) → j < 1 → zi (ZC (Value.int .i64 iZ) j) (aI (gD (Y2.q z) i iZ))) ∧ (3 : TypeId) = 3 ∧ 1 = 1 ∧ kI ∧ iZ = Y2.r z) ∧ 50 = 50 ∧ 1 = 1 ∧ zi q2 q2) ∧ lR) ∧ ∀ (z : Y2), let q3 := (gD a (Int.toNat ((cI (Y2.z z)) - iO)) zR.dflt + Y2.r z * iB); let q4 := (Int.tdiv
 q3 d); let q6 := (bF (dK ((cI (Y2.z z)) - iO - iO)) (∃ (z' : Y2), ((NP iB d a (Y2.z z') (Y2.q z') (Y2.r z') ∧ Y2.z z' < Y2.z z) ∧ nat_lit 5 = 5 ∧ (nat_lit 4 = 4 ∧ 0 = 0) ∧ kI ∧ (cI (Y2.z z)) - iO - iO = (cI (Y2.z z')) - iO) ∧ (((q1 ∧ 3 = 3 ∧ 1 = 1 ∧ lN (Y2.q z') = lN (Y2.q z) ∧ ∀ (i j : Nat), i < lN (Y2.q z) → j < 1 → zi (if i = 0 + Int.toNat ((cI (Y2.z z)) - iO) ∧ 0 ≤ j ∧ j < 1 then aI q4 else aI (List.getD
 (Y2.q z) i iZ)) (aI (gD (Y2.q z') i iZ))) ∧ 3 = 3 ∧ 1 = 1 ∧ kI ∧ Int.tmod q3 d = Y2.r z') ∧ 50 = 50 ∧ 1 = 1 ∧ zi q2 q2) ∧ lR)); let q5 := ((bF (DB.db (d ≠ iZ)) q6 ∧ bF (DB.db (d ≠ iZ)) q6) ∧ bF (DB.db (d ≠ iZ)) q6); let q9 := (ZJ (OB.arr (3 : TypeId) 1 (lN (Y2.q z)) fun (i x : Nat) => aI (gD (Y2.q z) i iZ))); let q10 := (((q1 ∧ 3 = 3 ∧ 1 = 1 ∧ lN (Y2.q z) = List.length
 (Y2.q z) ∧ ∀ (i j : Nat), i < lN (Y2.q z) → j < 1 → kI ∧ gD (Y2.q z) i iZ = gD (Y2.q z) i iZ) ∧ 3 = 3 ∧ 1 = 1 ∧ kI ∧ Y2.r z = Y2.r z) ∧ 50 = 50 ∧ 1 = 1 ∧ zi q2 q2); let q8 := (∃ (z_1 : Nat), ((z_1 ≤ lN q9 ∧ ∀ (i : Nat), z_1 ≤ i → gD (ZJ (OB.arr (3 : TypeId) 1 (lN (Y2.q z)) fun (i x : Nat) => aI (gD (Y2.q z) i iZ))) i iZ = iZ) ∧ nat_lit 2 = 2 ∧ 0 = 0 ∧ z_1 = Int.toNat (lZ a)) ∧ q10 ∧ True); let q15 := (zf (zU (AV.xl
 true 1 1 (Sx.rowAt [fun (x : Nat) => aI (Y2.r z)])))); let q14 := (xI q15); let q7 := (q8 ∧ ∀ (z_1 : Nat), let q11 := (!zS true (zM iZ (cI z_1)) || zS true (zM iZ (cI z_1))); (z_1 ≤ lN q9 ∧ ∀ (i : Nat), z_1 ≤ i → gD (ZJ (OB.arr (3 : TypeId) 1 (lN (Y2.q z)) fun (i x : Nat) => aI (gD (Y2.q z) i iZ))) i iZ = iZ) → bF q11 (bF q11 (bF (!zS true (zM iZ (cI z_1)) ||
 dK ((cI z_1) - iO)) (bF q11 (bF q11 (bF (!zS true (zM iZ (cI z_1)) || DB.db (iZ ≤ (cI z_1) - iO ∧ (cI z_1) - iO < (cI z_1))) (bF q11 (bF q11 (bF (!zM iZ (cI z_1) || zS true (zM iZ (cI z_1))) (zZ (bif zM iZ (cI z_1) then gD (Y2.q z) (0 + Int.toNat ((cI z_1) - iO)) iZ == iZ else false) (bF (dK ((cI z_1) - iO)) (bF (DB.db (iZ ≤ (cI z_1) - iO ∧ (cI z_1) - iO ≤ (↑z_1 :
 Int))) (∃ (z' : Nat), (((z' ≤ lN q9 ∧ ∀ (i : Nat), z' ≤ i → gD (ZJ (OB.arr (3 : TypeId) 1 (lN (Y2.q z)) fun (i x : Nat) => aI (gD (Y2.q z) i iZ))) i iZ = iZ) ∧ z' < z_1) ∧ nat_lit 2 = 2 ∧ 0 = 0 ∧ z' = Int.toNat ((cI z_1) - iO)) ∧ q10 ∧ True))) (j2 ∧ (True ∧ zi (AV.xl false 1 z_1 fun i j => aI (gD (Y2.q z) (0 + i) iZ)) q12) ∧ zi q14 q16))))))))))); NP iB d a
 (Y2.z z) (Y2.q z) (Y2.r z) → zZ (leB iZ ((cI (Y2.z z)) - iO)) (bF (DB.db (iZ ≤ (cI (Y2.z z)) - iO ∧ (cI (Y2.z z)) - iO < (lZ a))) (bF (dK (Y2.r z * iB)) (bF (dK q3) (bF (DB.db (d ≠ iZ)) (bF (dK q4) (bF (DB.db (iZ ≤ (cI (Y2.z z)) - iO ∧ (cI (Y2.z z)) - iO < (cI (Int.toNat (lZ a))))) (q5 ∧ q5 ∧ bF (DB.db (d ≠ iZ)) q6))))))) (q7 ∧
 q7 ∧ q8 ∧ ∀ (z_1 : Nat), let q18 := (!zS true (zM iZ (cI z_1)) || zS true (zM iZ (cI z_1))); (z_1 ≤ lN q9 ∧ ∀ (i : Nat), z_1 ≤ i → gD (ZJ (OB.arr (3 : TypeId) 1 (lN (Y2.q z)) fun (i x : Nat) => aI (gD (Y2.q z) i iZ))) i iZ = iZ) → bF q18 (bF q18 (bF (!zS true (zM iZ (cI z_1)) || dK ((cI z_1) - iO)) (bF q18 (bF q18 (bF (!zS true (zM iZ (cI z_1)) || DB.db (iZ ≤ (cI z_1) - iO ∧ (cI z_1) - (1 :
 Int) < (cI z_1))) (bF q18 (bF q18 (bF (!zM iZ (cI z_1) || zS true (zM iZ (cI z_1))) (zZ (bif zM iZ (cI z_1) then gD (Y2.q z) (0 + Int.toNat ((cI z_1) - iO)) iZ == iZ else false) (bF (dK ((cI z_1) - iO)) (bF (DB.db (iZ ≤ (cI z_1) - iO ∧ (cI z_1) - iO ≤ (cI z_1))) (∃ (z' : Nat), (((z' ≤ lN q9 ∧ ∀ (i : Nat), z' ≤ i → gD (ZJ (OB.arr (3 : TypeId) 1 (lN (Y2.q z)) fun (i x : Nat) => aI (List.getD
 (Y2.q z) i iZ))) i iZ = iZ) ∧ z' < z_1) ∧ nat_lit 2 = 2 ∧ 0 = 0 ∧ z' = Int.toNat ((cI z_1) - iO)) ∧ q10 ∧ True))) (j2 ∧ (True ∧ zi (AV.xl false 1 z_1 fun i j => aI (gD (Y2.q z) (0 + i) iZ)) q12) ∧ zi q14 q16))))))))))))) := by
 delta bF dK xI lR cI kI j2 lZ lN gD iZ iO iB aI
 dsimp only
 intro hb
 have e0 : (zR.dflt : Int) = 0 := rfl
 simp only [↓Zf, ↓Zu, row_one]
 simp only [sS, dS, e0]
 simp only [and_self, FM, implies_true, and_true]
 obtain ⟨d0, d1⟩ := hd
 have va := zd (b := 1000000000) (by omega) ha
 refine ⟨⟨by omega, by omega, by omega⟩, ⟨by omega, by omega⟩, ⟨⟨a.length, List.replicate a.length 0, 0⟩, ⟨.start (by omega) d0 a, rfl⟩, ⟨by simp, fun i j _ hj => VN _ i j hj⟩, rfl⟩, fun z z1 => ⟨fun hz => ?_, fun hz => ?_⟩⟩
 ·have zle := z1.le
  have zl := z1.len
  have R0 := z1.r0
  have R1 := z1.r1
  have hzk : z.z - 1 + 1 = z.z := by omega
  obtain ⟨⟨n0, n1⟩, hs⟩ := (hzk.symm ▸ z1 : NP 1000000000 d a (z.z - 1 + 1) z.q z.r).step (by omega) ha
  have ek : ((z.z : Int) - 1).toNat = z.z - 1 := by omega
  rw [ek]
  have xk := ha.get (by omega) (z.z - 1)
  have q1 := hs.in_.get (by omega) (z.z - 1)
  rw [Yj _ _ _ _ (by omega), if_pos rfl] at q1
  generalize a.getD (z.z - 1) 0 + z.r * 1000000000 = N at *
  exact ⟨⟨by omega, by omega⟩, ⟨by omega, by omega⟩, ⟨by omega, by omega⟩, by omega, ⟨by omega, by omega⟩, ⟨by omega, by omega⟩, by omega, ⟨by omega, by omega⟩, ⟨z.z - 1, _, _⟩, ⟨⟨hs, by simp only; omega⟩, by simp only; omega⟩, ⟨by simp, fun i j _ => Ro _ _ _ (by omega) i j⟩, rfl⟩
 ·have zl := z1.len
  have hz0 : z.z = 0 := by have := z1.le; omega
  obtain ⟨D, rfl⟩ : ∃ D : Nat, d = D := ⟨d.toNat, by omega⟩
  obtain ⟨X, hX⟩ : ∃ X : Nat, zt 1000000000 a = X := ⟨(zt 1000000000 a).toNat, by omega⟩
  obtain ⟨t1, _, t3⟩ := (hz0 ▸ z1 : NP 1000000000 D a 0 z.q z.r).end_ (b := 1000000000) (by omega) (by omega) (by omega) X hX
  rw [hX]
  simp only [Int.toNat_natCast]
  refine ⟨⟨a.length, ⟨by omega, fun i hi => W5 (by omega)⟩, rfl⟩, fun k ⟨k1, k2⟩ => ⟨fun h => ?_, fun h => ?_, zY.2 ⟨fun c => ?_, fun c => ?_⟩⟩⟩
  ·have := (zq _ _).1 h; exact ⟨by omega, by omega⟩
  ·have := (zq _ _).1 h; exact ⟨by omega, by omega⟩
  ·obtain ⟨c1, c2⟩ := Sy k2 c
   exact ⟨⟨by omega, by omega⟩, ⟨by omega, by omega⟩, k - 1, ⟨⟨by omega, c2⟩, by omega⟩, by omega⟩
  ·have ht := sV k1 k2 c
   refine ⟨rfl, EL k1 (ht.symm.trans t1), ?_⟩
   have er : zU (AV.xl true 1 1 fun x j => AV.v (Value.int IntKind.i64 z.r)) = [z.r] := rfl
   rw [er, show zf [z.r] = zT 1000000000 (X % D) from t3]
   exact zV _
theorem Ju (a : List Int) (d : Int) (ha : ZR 1000000000 a) (hd : 0 < d ∧ d ≤ 1000000000) (hl : a.length ≤ 1000000000) : zv Tryz.prog [] 190 [Zl a, .i d] (.tup 2 (zw [Zl (zT 1000000000 ((zt 1000000000 a).toNat / d.toNat)), Zl (zT 1000000000 ((zt 1000000000 a).toNat % d.toNat))])) :=
 zW (T := eF) (an := gZ a d) mixed nt (Eq.mp (by kernel_rfl) (Na a d ha hd hl))
theorem L5 : zQ Tryz.prog [] 190 Se := by
 intro xs ps r h hp
 unfold Se at h
 split at h
 ·skip
  rename_i QG d
  cases h
  obtain ⟨q0, q1, q2, q3, -⟩ := ZT hp
  exact weaken (ys := [Zl (zU QG), .i d]) ⟨zI q0, zV _, trivial⟩ (Ju (zU QG) d q1 q2 q3)
 ·cases h
def uQ (b u2 v1 v2 : Int) : Nat → Int → Int → Int
 | 0, q, _ => q
 | n + 1, q, r => bif leB b q || (zM r b && zM (r * b + u2) (q * v2)) then (bif leB b (r + v1) then q - 1 else uQ b u2 v1 v2 n (q - 1) (r + v1)) else q
def vG (b : Int) (u v : List Int) (j : Nat) : Int :=
 uQ b (u.getD (j + v.length - 2) 0) (v.getD (v.length - 1) 0) (v.getD (v.length - 2) 0) ((u.getD (j + v.length) 0 * b + u.getD (j + v.length - 1) 0).tdiv (v.getD (v.length - 1) 0)).toNat
  ((u.getD (j + v.length) 0 * b + u.getD (j + v.length - 1) 0).tdiv (v.getD (v.length - 1) 0)) ((u.getD (j + v.length) 0 * b + u.getD (j + v.length - 1) 0).tmod (v.getD (v.length - 1) 0))
structure xM where
 q : Int
 r : Int
def j0 (u v : List Int) (j : Int) : yV :=
 .two .auto (.two .auto (.two .auto (.two .auto (.two (.one (.loop xM (fun σ z => [(0, σ.tm 0), (1, σ.tm 1), (2, σ.tm 2), (7, σ.tm 7), (9, .i z.q), (10, .i z.r)]) (fun σ z => []) 0 (fun σ z => 0 ≤ z.q ∧ z.q ≤ 2000000000 ∧ 0 ≤ z.r ∧ z.r < 1000000000 ∧ uQ 1000000000 (u.getD (j.toNat + v.length - 2) 0) (v.getD (v.length - 1) 0) (v.getD (v.length - 2) 0) z.q.toNat z.q z.r = vG 1000000000 u v j.toNat) (fun σ z => z.q.toNat) .auto)) .auto))))
def pT : List AV → Option (List zN × AV)
 | [Qs, x_v, .v (.int .i64 j)] => some ([.b (ze Int Qs), .b (ze Int x_v), .p (ZR 1000000000 (zU Qs)), .p (ZR 1000000000 (zU x_v)), .p (2 ≤ (zU x_v).length), .p ((zU x_v).length ≤ 1000000000), .p (0 ≤ j ∧ j + (zU x_v).length < (zU Qs).length), .p (0 < (zU x_v).getD ((zU x_v).length - 1) 0), .p ((zU Qs).getD (j.toNat + (zU x_v).length) 0 ≤ (zU x_v).getD ((zU x_v).length - 1) 0)], .i (vG 1000000000 (zU Qs) (zU x_v) j.toNat))
 | _ => none
theorem jp (u : List Int) (v : List Int) (j : Int) (hu : ZR 1000000000 u) (hv : ZR 1000000000 v) (hn : 2 ≤ v.length) (hl : v.length ≤ 1000000000) (hj : 0 ≤ j ∧ j + v.length < u.length) (h1 : 0 < v.getD (v.length - 1) 0) (hc : u.getD (j.toNat + v.length) 0 ≤ v.getD (v.length - 1) 0) :
 let q2 := (ZB .i64 (j + (lZ v))); let q1 := (DB.db q2); let q3 := (Int.toNat (j + (lZ v))); let q4 := (j + (lZ v) - iO); let q5 := (gD u q3 zR.dflt * iB + gD u (Int.toNat q4) zR.dflt); let q6 := (dK ((lZ v) - iO)); let q7 := (DB.db (iZ ≤ (lZ v) - iO ∧ (lZ v) - iO < (lZ v))); let q9 := (Int.toNat ((lZ v) - iO)); let q8 := (DB.db (gD v q9 zR.dflt ≠ (0 :
 Int))); let q10 := (gD v q9 zR.dflt); let q11 := (gD u (Int.toNat j + lN v - 2) iZ); let q12 := (gD v (lN v - 1) iZ); let q13 := (gD v (lN v - 2) iZ); let q14 := (xI u); let q15 := (xI v); let q16 := (kI ∧ (lZ v) = (lZ v)); let q21 := (j + (lZ v) - (2 : Int)); zB [AV.xl false 1
 (lN u) fun i j => aI (gD u i zR.dflt), xI v, aI j] → bF q1 (bF (DB.db (iZ ≤ j + (lZ v) ∧ j + (lZ v) < (lZ u))) (bF (dK (gD u q3 zR.dflt * iB)) (bF q1 (bF (dK q4) (bF (DB.db (iZ ≤ j + (lZ v) - iO ∧ j + (lZ v) - iO < (lZ u))) (bF (DB.db (ZB .i64
 q5)) (bF q6 (bF q7 (bF q8 (bF (dK (Int.tdiv q5 q10)) (bF q6 (bF q7 (bF q8 ((∃ (z : xM), ((iZ ≤ xM.q z ∧ xM.q z ≤ (2000000000 : Int) ∧ iZ ≤ xM.r z ∧ xM.r z < iB ∧ uQ iB q11 q12 q13 (Int.toNat (xM.q z)) (xM.q z) (xM.r z) = vG iB u v (Int.toNat j)) ∧ zi q14 q14 ∧ zi q15 q15 ∧ (kI ∧ j = j) ∧ q16 ∧ (kI ∧ Int.tdiv q5 q10 = xM.q z) ∧ kI ∧ Int.tmod q5 q10 = xM.r z) ∧ True) ∧ ∀ (z : xM), let q17 := (!zS false (leB iB
 (xM.q z)) || zS false (leB iB (xM.q z))); let q19 := (zS false (leB iB (xM.q z)) && zS true (zM (xM.r z) iB)); let q18 := (!q19 || zS false (leB iB (xM.q z)) && zS true (zM (xM.r z) iB)); let q20 := (xM.q z * gD v (Int.toNat ((lZ v) - (2 : Int))) zR.dflt); let q22 := (xM.r z * iB + gD u (Int.toNat q21) zR.dflt); let q23 := (xM.r z + gD v q9 zR.dflt); iZ ≤ xM.q z ∧ xM.q z ≤ (2000000000 : Int) ∧ iZ ≤ xM.r z ∧ xM.r z <
 iB ∧ uQ iB q11 q12 q13 (Int.toNat (xM.q z)) (xM.q z) (xM.r z) = vG iB u v (Int.toNat j) → bF q17 (zZ q17 (bF q18 (bF (!q19 || dK ((lZ v) - (2 : Int))) (bF q18 (bF q18 (bF (!q19 || DB.db (iZ ≤ (lZ v) - (2 : Int) ∧ (lZ v) - (2 : Int) < (lZ v))) (bF q18 (bF q18 (bF q18 (bF (!q19 || dK q20) (bF q18 (bF (!q19 || dK (xM.r z * iB)) (bF q18 (zZ q18
 (bF (!q19 || DB.db q2) (bF q18 (bF (!q19 || dK q21) (bF q18 (bF q18 (bF (!q19 || DB.db (iZ ≤ j + (lZ v) - (2 : Int) ∧ j + (lZ v) - (2 : Int) < (lZ u))) (bF q18 (bF q18 (bF q18 (bF (!q19 || dK q22) (bF q18 (bF q18 (bF q17 (bF (!zS false (leB iB (xM.q z)) || (!zM (xM.r z) iB || zS false (leB iB (xM.q z)) && zS true (zM (xM.r z) iB))) (bF (!!leB iB (xM.q z) ||
 zS false (leB iB (xM.q z))) (zZ (bif leB iB (xM.q z) then true else bif zM (xM.r z) iB then zM q22 q20 else false) (bF (dK (xM.q z - iO)) (bF q6 (bF q7 (bF (dK q23) (zZ (leB iB q23) (kI ∧ xM.q z - iO = vG iB u v (Int.toNat j)) (∃ (z' : xM), (((iZ ≤ xM.q z' ∧ xM.q z' ≤ (2000000000 : Int) ∧ iZ ≤ xM.r z' ∧ xM.r z' < iB ∧ uQ iB q11 q12 q13 (Int.toNat (xM.q z')) (xM.q z')
 (xM.r z') = vG iB u v (Int.toNat j)) ∧ Int.toNat (xM.q z') < Int.toNat (xM.q z)) ∧ zi q14 q14 ∧ zi q15 q15 ∧ (kI ∧ j = j) ∧ q16 ∧ (kI ∧ xM.q z - iO = xM.q z') ∧ kI ∧ xM.r z + gD v q9 zR.dflt = xM.r z') ∧ True)))))) (kI ∧ xM.q z = vG iB u v (Int.toNat j)))))))))))))))))) False)))))))))))))
 False))))))))))))))) := by
 delta bF dK xI kI lZ lN gD iZ iO iB aI
 dsimp only
 intro hb
 have e0 : (zR.dflt : Int) = 0 := rfl
 simp only [↓Zf, ↓Zu, row_one]
 simp only [sS, dS, e0]
 have hu1 : u.length ≤ 9223372036854775807 := hb.1.1
 have en : ((v.length : Int) - 1).toNat = v.length - 1 := by omega
 have en2 : ((v.length : Int) - 2).toNat = v.length - 2 := by omega
 have ej : (j + (v.length : Int)).toNat = j.toNat + v.length := by omega
 have ej1 : (j + (v.length : Int) - 1).toNat = j.toNat + v.length - 1 := by omega
 have ej2 : (j + (v.length : Int) - 2).toNat = j.toNat + v.length - 2 := by omega
 rw [en, en2, ej, ej1, ej2]
 have hF : vG 1000000000 u v j.toNat = uQ 1000000000 (u.getD (j.toNat + v.length - 2) 0) (v.getD (v.length - 1) 0) (v.getD (v.length - 2) 0) ((u.getD (j.toNat + v.length) 0 * 1000000000 + u.getD (j.toNat + v.length - 1) 0).tdiv (v.getD (v.length - 1) 0)).toNat
  ((u.getD (j.toNat + v.length) 0 * 1000000000 + u.getD (j.toNat + v.length - 1) 0).tdiv (v.getD (v.length - 1) 0)) ((u.getD (j.toNat + v.length) 0 * 1000000000 + u.getD (j.toNat + v.length - 1) 0).tmod (v.getD (v.length - 1) 0)) := rfl
 rw [hF]
 have u0 := hu.get (by omega) (j.toNat + v.length)
 have u1 := hu.get (by omega) (j.toNat + v.length - 1)
 have u2 := hu.get (by omega) (j.toNat + v.length - 2)
 have w1 := hv.get (by omega) (v.length - 1)
 have w2 := hv.get (by omega) (v.length - 2)
 clear hF
 generalize u.getD (j.toNat + v.length) 0 = a0 at *
 generalize u.getD (j.toNat + v.length - 1) 0 = a1 at *
 generalize u.getD (j.toNat + v.length - 2) 0 = a2 at *
 generalize v.getD (v.length - 1) 0 = b1 at *
 generalize v.getD (v.length - 2) 0 = b2 at *
 obtain ⟨e, m0, m1, q0⟩ := Jo (n := a0 * 1000000000 + a1) (b := b1) (by omega) h1
 have qle : (a0 * 1000000000 + a1).tdiv b1 ≤ 2000000000 := by
  refine Decidable.byContradiction fun hn => ?_
  have t1 : b1 * 2000000001 ≤ b1 * (a0 * 1000000000 + a1).tdiv b1 := Int.mul_le_mul_of_nonneg_left (by omega) (by omega)
  omega
 generalize (a0 * 1000000000 + a1).tdiv b1 = q at *
 generalize (a0 * 1000000000 + a1).tmod b1 = r at *
 obtain ⟨E, hE⟩ : ∃ E, uQ 1000000000 a2 b1 b2 q.toNat q r = E := ⟨_, rfl⟩
 rw [hE]
 refine ⟨⟨by omega, by omega⟩, ⟨by omega, by omega⟩, ⟨by omega, by omega⟩, ⟨by omega, by omega⟩, ⟨by omega, by omega⟩, ⟨by omega, by omega⟩, ⟨by omega, by omega⟩, ⟨by omega, by omega⟩, ⟨by omega, by omega⟩, by omega, ⟨by omega, by omega⟩, ⟨by omega, by omega⟩, ⟨by omega, by omega⟩, by omega, ⟨⟨q, r⟩, ⟨q0, qle, m0, by simp only; omega, hE⟩, rfl, rfl⟩, fun ⟨Q, R⟩ ⟨z1, z2, z3, z4, z5⟩ => ?_⟩
 simp only at z1 z2 z3 z4 z5 ⊢
 have p0 : 0 ≤ Q * b2 := Int.mul_nonneg z1 w2.1
 have p1 : Q * b2 ≤ Q * 1000000000 := Int.mul_le_mul_of_nonneg_left (by omega) z1
 refine ⟨fun _ => ⟨by omega, by omega⟩, fun _ => ⟨by omega, by omega⟩, fun _ => ⟨by omega, by omega⟩, fun _ => ⟨by omega, by omega⟩, fun _ => ⟨by omega, by omega⟩, fun _ => ⟨by omega, by omega⟩, fun _ => ⟨by omega, by omega⟩, fun _ => ⟨by omega, by omega⟩, ?_⟩
 refine Tq (by cases leB 1000000000 Q <;> cases zM R 1000000000 <;> rfl) ?_
 refine zY.2 ⟨fun c => ?_, fun c => ?_⟩
 ·have hQ : 0 < Q := by
   rw [Bool.or_eq_true, z8, Bool.and_eq_true, zq, zq] at c
   rcases c with c | c
   ·omega
   ·refine Decidable.byContradiction fun hn => ?_
    have : Q = 0 := by omega
    rw [this, Int.zero_mul] at c
    omega
  obtain ⟨n, hn⟩ : ∃ n : Nat, Q.toNat = n + 1 := ⟨Q.toNat - 1, by omega⟩
  rw [hn] at z5 ⊢
  unfold uQ at z5
  rw [c, cond_true] at z5
  have hn2 : (Q - 1).toNat = n := by omega
  refine ⟨⟨by omega, by omega⟩, ⟨by omega, by omega⟩, ⟨by omega, by omega⟩, ⟨by omega, by omega⟩, fun h => ?_, fun h => ⟨⟨Q - 1, R + b1⟩, ⟨⟨by simp only; omega, by simp only; omega, by simp only; omega, h, ?_⟩, by simp only; omega⟩, rfl, rfl⟩⟩
  ·rw [(z8 _ _).2 h] at z5; exact z5
  ·rw [show leB 1000000000 (R + b1) = false from Bool.eq_false_iff.2 fun e => by have := (z8 _ _).1 e; omega] at z5
   rw [← z5]
   simp only [hn2, cond_false]
 ·rw [← z5]
  cases hQ : Q.toNat with
  | zero => rfl
  | succ n => unfold uQ; rw [c]; rfl
theorem Hz (u : List Int) (v : List Int) (j : Int) (hu : ZR 1000000000 u) (hv : ZR 1000000000 v) (hn : 2 ≤ v.length) (hl : v.length ≤ 1000000000) (hj : 0 ≤ j ∧ j + v.length < u.length) (h1 : 0 < v.getD (v.length - 1) 0) (hc : u.getD (j.toNat + v.length) 0 ≤ v.getD (v.length - 1) 0) : zv Tryz.prog [] 192 [Zl u, Zl v, .i j] (.i (vG 1000000000 u v j.toNat)) :=
 zW (T := T0) (an := j0 u v j) mixed zr (Eq.mp (by kernel_rfl) (jp u v j hu hv hn hl hj h1 hc))
theorem Hw : zQ Tryz.prog [] 192 pT := by
 intro xs ps r h hp
 unfold pT at h
 split at h
 ·skip
  rename_i Qs x_v j
  cases h
  obtain ⟨q0, q1, q2, q3, q4, q5, q6, q7, q8, -⟩ := ZT hp
  exact weaken (ys := [Zl (zU Qs), Zl (zU x_v), .i j]) ⟨zI q0, zI q1, zV _, trivial⟩ (Hz (zU Qs) (zU x_v) j q2 q3 q4 q5 q6 q7 q8)
 ·cases h
noncomputable def Eo : Tb := (T0.plus 161 VR).body Tryz.prog [(136, SO)]
theorem ng : zz Tryz.prog Eo := zz.body mixed (zz.plus zr rm) _
def vO (x y : List Int) : List Int := zT 1000000000 (zt 1000000000 x * zt 1000000000 y).toNat
theorem lB (x y : List Int) (hx : ZR 1000000000 x) (hy : ZR 1000000000 y) (hlx : x.length ≤ 1000000000) (hly : y.length ≤ 1000000000) :
 let q1 := ((lZ x) + (lZ y) + iO); let q2 := (xI y); let q3 := (nat_lit 0 = 0 ∧ 0 = 0 ∧ Int.toNat q1 = Int.toNat q1); let q4 := (xI x); let q5 := (kI ∧ (lZ x) = (lZ x)); let q9 := (kI ∧ (lZ y) + iO = (lZ y) + iO); let q13 := (zU q2); zB [AV.xl false 1 (lN x)
 fun i j => aI (gD x i zR.dflt), xI y] → bF (dK ((lZ x) + (lZ y))) (bF (dK q1) (bF (DB.db (iZ ≤ (lZ x) + (lZ y) + iO ∧ (lZ x) + (lZ y) + iO ≤ (lZ x) + (lZ y) + iO ∧ (↑8 : Int) * q1 ≤ (140737488355328 : Int))) ((∃ (z : yU), ((WB iB x y (yU.i z) (yU.out z) ∧
 yU.i z ≤ lN x) ∧ zi q2 q2 ∧ q3 ∧ zi q4 q4 ∧ q5 ∧ kI ∧ iZ = (cI (yU.i z))) ∧ (3 : TypeId) = 3 ∧ 1 = 1 ∧ lN (yU.out z) = Int.toNat q1 ∧ ∀ (i j : Nat), i < Int.toNat q1 → j < 1 → zi (ZC (Value.int .i64 iZ) j) (aI (gD (yU.out z) i iZ))) ∧ ∀ (z : yU), let q6 := (Int.toNat (AV.int (aI (cI (yU.i z))))); let q7 := (kI ∧ (cI (yU.i z)) = (cI (yU.i z))); let q8 := (kI ∧ gD x (Int.toNat (cI (yU.i z))) zR.dflt = gD x (Int.toNat
 (cI (yU.i z))) zR.dflt); let q16 := (ZJ (OB.arr (3 : TypeId) 1 (lN (yU.out z)) fun (i x : Nat) => aI (gD (yU.out z) i iZ))); WB iB x y (yU.i z) (yU.out z) ∧ yU.i z ≤ lN x → zZ (zM (cI (yU.i z)) (lZ x)) (bF (DB.db (iZ ≤ (cI (yU.i z)) ∧ (cI (yU.i z)) < (lZ x))) (bF (dK ((lZ y) + iO)) ((∃ (z_1 : yW), ((MulK iB x y q6 (yW.k z_1) (yW.out z_1) (yW.c z_1) ∧ yW.k z_1 ≤ lN y + 1 ∧
 (yW.k z_1 = lN y + 1 → yW.c z_1 = iZ)) ∧ zi q2 q2 ∧ q3 ∧ q7 ∧ q8 ∧ zi q4 q4 ∧ q5 ∧ q7 ∧ q9 ∧ (kI ∧ iZ = yW.c z_1) ∧ kI ∧ iZ = (cI (yW.k z_1))) ∧ 3 = 3 ∧ 1 = 1 ∧ lN (yW.out z_1) = lN (yU.out z) ∧ ∀ (i j : Nat), i < lN (yU.out z) → j < 1 → kI ∧ gD (yU.out z) i iZ = gD (yW.out z_1) i iZ) ∧ ∀ (z_1 : yW), let q11 := ((cI (yU.i z)) + (cI (yW.k z_1))); let q10 := (dK q11); let q12 := (DB.db (iZ ≤ (cI (yU.i z)) +
 (cI (yW.k z_1)) ∧ (cI (yU.i z)) + (cI (yW.k z_1)) < (cI (Int.toNat q1)))); let q14 := (0 + Int.toNat q11); let q15 := (gD (yW.out z_1) q14 iZ + gD x (Int.toNat (cI (yU.i z))) zR.dflt * gD q13 (Int.toNat (cI (yW.k z_1))) iZ + yW.c z_1); MulK iB x y q6 (yW.k z_1) (yW.out z_1) (yW.c z_1) ∧ yW.k z_1 ≤ lN y + 1 ∧ (yW.k z_1 = lN y + 1 → yW.c z_1 = iZ) → zZ (zM (cI (yW.k z_1)) ((lZ y) + iO)) (bF q10 (bF q12 (bF (ze Int q2) (iZ ≤
 (cI (yW.k z_1)) ∧ bF (dK (gD x (Int.toNat (cI (yU.i z))) zR.dflt * gD q13 (Int.toNat (cI (yW.k z_1))) iZ)) (bF (dK (gD (yW.out z_1) q14 iZ + gD x (Int.toNat (cI (yU.i z))) zR.dflt * gD q13 (Int.toNat (cI (yW.k z_1))) iZ)) (bF (dK q15) (bF q10 (bF (dK (Int.tdiv q15 iB)) (bF q12 (bF (dK ((cI (yW.k z_1)) + iO)) (∃ (z' : yW), (((MulK iB x y q6 (yW.k z') (yW.out z') (yW.c
 z') ∧ yW.k z' ≤ lN y + 1 ∧ (yW.k z' = lN y + 1 → yW.c z' = iZ)) ∧ lN y + 1 - yW.k z' < lN y + 1 - yW.k z_1) ∧ zi q2 q2 ∧ q3 ∧ q7 ∧ q8 ∧ zi q4 q4 ∧ q5 ∧ q7 ∧ q9 ∧ (kI ∧ Int.tdiv q15 iB = yW.c z') ∧ kI ∧ (cI (yW.k z_1)) + iO = (cI (yW.k z'))) ∧ 3 = 3 ∧ 1 = 1 ∧ lN (yW.out z') = lN (yW.out z_1) ∧ ∀ (i j : Nat), i < lN (yW.out z_1) → j < 1 → zi (if i = 0 + Int.toNat q11 ∧ 0 ≤ j ∧ j < 1 then aI (Int.tmod q15 iB) else AV.v
 (Value.int .i64 (gD (yW.out z_1) i iZ))) (aI (gD (yW.out z') i iZ))))))))))))) (bF (dK ((cI (yU.i z)) + iO)) (∃ (z' : yU), (((WB iB x y (yU.i z') (yU.out z') ∧ yU.i z' ≤ lN x) ∧ lN x - yU.i z' < lN x - yU.i z) ∧ zi q2 q2 ∧ q3 ∧ zi q4 q4 ∧ q5 ∧ kI ∧ (cI (yU.i z)) + iO = (cI (yU.i z'))) ∧ 3 = 3 ∧ 1 = 1 ∧ lN (yU.out z') = lN (yW.out z_1) ∧ ∀ (i j : Nat), i
 < lN (yW.out z_1) → j < 1 → kI ∧ gD (yW.out z_1) i iZ = gD (yU.out z') i iZ))))) ((∃ (z_1 : Nat), ((z_1 ≤ lN q16 ∧ ∀ (i : Nat), z_1 ≤ i → gD (ZJ (OB.arr (3 : TypeId) 1 (lN (yU.out z)) fun (i x : Nat) => aI (gD (yU.out z) i iZ))) i iZ = iZ) ∧ nat_lit 0 = 0 ∧ 0 = 0 ∧ z_1 = Int.toNat q1) ∧ 3 = 3 ∧ 1 = 1 ∧ lN (yU.out z) = lN (yU.out z) ∧ ∀ (i j : Nat), i < lN (yU.out z) → j < 1 → kI ∧ gD (yU.out
 z) i iZ = gD (yU.out z) i iZ) ∧ ∀ (z_1 : Nat), let q17 := (!zS true (zM iZ (cI z_1)) || zS true (zM iZ (cI z_1))); (z_1 ≤ lN q16 ∧ ∀ (i : Nat), z_1 ≤ i → gD (ZJ (OB.arr (3 : TypeId) 1 (lN (yU.out z)) fun (i x : Nat) => aI (gD (yU.out z) i iZ))) i iZ = iZ) → bF q17 (bF q17 (bF (!zS true (zM iZ (cI z_1)) || dK ((cI z_1) - iO)) (bF q17 (bF q17 (bF (!zS true (zM iZ (cI z_1)) || DB.db (iZ ≤
 (cI z_1) - iO ∧ (cI z_1) - iO < (cI z_1))) (bF q17 (bF q17 (bF (!zM iZ (cI z_1) || zS true (zM iZ (cI z_1))) (zZ (bif zM iZ (cI z_1) then gD (yU.out z) (0 + Int.toNat ((cI z_1) - iO)) iZ == iZ else false) (bF (dK ((cI z_1) - iO)) (bF (DB.db (iZ ≤ (cI z_1) - iO ∧ (cI z_1) - iO ≤ (cI z_1))) (∃ (z' : Nat), (((z' ≤ lN q16 ∧ ∀ (i : Nat), z' ≤ i → gD (ZJ (OB.arr (3 : TypeId) 1 (lN (yU.out z))
 fun (i x : Nat) => aI (gD (yU.out z) i iZ))) i iZ = iZ) ∧ z' < z_1) ∧ nat_lit 0 = 0 ∧ 0 = 0 ∧ z' = Int.toNat ((cI z_1) - iO)) ∧ 3 = 3 ∧ 1 = 1 ∧ lN (yU.out z) = lN (yU.out z) ∧ ∀ (i j : Nat), i < lN (yU.out z) → j < 1 → kI ∧ gD (yU.out z) i iZ = gD (yU.out z) i iZ))) (3 = 3 ∧ 1 = 1 ∧ z_1 = lN (vO x y) ∧ ∀ (i j : Nat), i < lN (vO x y) → j < 1 → kI ∧ gD (yU.out z) i iZ = gD (vO x y) i (0 :
 Int))))))))))))))) := by
 delta bF dK xI cI kI lZ lN gD iZ iO iB aI
 dsimp only
 intro hb
 have e0 : (zR.dflt : Int) = 0 := rfl
 simp only [↓Zf, ↓Zu, row_one]
 simp only [sS, dS, e0, FM, implies_true, and_true]
 have en : ((x.length : Int) + (y.length : Int) + 1).toNat = x.length + y.length + 1 := by omega
 rw [en]
 refine ⟨⟨by omega, by omega⟩, ⟨by omega, by omega⟩, ⟨by omega, Int.le_refl _, by omega⟩, ⟨⟨0, List.replicate (x.length + y.length + 1) 0⟩, ⟨⟨.zero_ (by omega) _ _, Nat.zero_le _⟩, rfl⟩, by simp, fun i j _ hj => VN _ i j hj⟩, fun z ⟨z1, z2⟩ => ⟨fun hz => ⟨⟨by omega, hz⟩, ⟨by omega, by omega⟩, ⟨⟨0, 0, z.out⟩, ⟨⟨z1.start (by omega), Nat.zero_le _, fun h => rfl⟩, rfl, rfl⟩, rfl, fun _ _ _ _ => rfl⟩, fun w ⟨w1, w2, w3⟩ => ⟨fun hk0 => ?_, fun hk0 => ?_⟩⟩, fun hz => ?_⟩⟩
 ·have hz' : z.i < x.length := by omega
  have w4 := w1.len
  have hk : w.k ≤ y.length := by omega
  have ek : ((z.i : Int) + (w.k : Int)).toNat = z.i + w.k := by omega
  rw [ek]
  obtain ⟨⟨n0, n1⟩, hs⟩ := w1.step (by omega) hx hy hz' hk
  have g1 := hx.get (by omega) z.i
  have g2 := hy.get (by omega) w.k
  have g3 := w1.in_.get (by omega) (z.i + w.k)
  have c0 := w1.c0
  have c1 := w1.c1
  have p0 : 0 ≤ x.getD z.i 0 * y.getD w.k 0 := Int.mul_nonneg g1.1 g2.1
  have d0 := hs.c0
  have d1 := hs.c1
  refine ⟨⟨by omega, by omega⟩, ⟨by omega, by omega⟩, by omega, ⟨by omega, by omega⟩, ⟨by omega, by omega⟩, ⟨by omega, by omega⟩, ⟨by omega, by omega⟩, ⟨by omega, by omega⟩, ⟨by omega, by omega⟩, ⟨by omega, by omega⟩, ⟨w.k + 1, _, _⟩, ⟨⟨⟨hs, by simp only; omega, fun h => ?_⟩, by simp only; omega⟩, rfl, rfl⟩, by simp, fun i j _ => Ro _ _ _ (by omega) i j⟩
  have hk' : w.k = y.length := by simp only at h; omega
  have := (hk' ▸ w1 : MulK 1000000000 x y z.i y.length w.out w.c).last (by omega)
  rw [← hk'] at this
  exact this
 ·have c0 := w1.c0
  have hc := w3 (by omega)
  exact ⟨⟨by omega, by omega⟩, ⟨z.i + 1, w.out⟩, ⟨⟨⟨w1.fin (by omega) w2 hc, by simp only; omega⟩, by simp only; omega⟩, rfl⟩, rfl, fun _ _ _ _ => rfl⟩
 ·have hz' : z.i = x.length := by omega
  have zl := z1.len
  have he := (hz' ▸ z1 : WB 1000000000 x y x.length z.out).end_ (b := 1000000000) (by omega)
  refine ⟨⟨x.length + y.length + 1, ⟨by omega, fun i hi => W5 (by omega)⟩, rfl⟩, fun k ⟨k1, k2⟩ => ⟨fun h => ?_, fun h => ?_, zY.2 ⟨fun c => ?_, fun c => ?_⟩⟩⟩
  ·have := (zq _ _).1 h; exact ⟨by omega, by omega⟩
  ·have := (zq _ _).1 h; exact ⟨by omega, by omega⟩
  ·obtain ⟨c1, c2⟩ := Sy k2 c
   exact ⟨⟨by omega, by omega⟩, ⟨by omega, by omega⟩, k - 1, ⟨⟨by omega, c2⟩, by omega⟩, by omega⟩
  ·have ht := sV k1 k2 c
   have hp : z.out.take k = vO x y := ht.symm.trans he
   have hkl : k = (vO x y).length := by rw [← hp, List.length_take]; omega
   exact ⟨hkl, fun i j hi _ => by rw [← hp, Yb (by omega)]⟩
theorem kG {x y : List Int} (hx : ZR 1000000000 x) (hy : ZR 1000000000 y) (hlx : x.length ≤ 1000000000) (hly : y.length ≤ 1000000000) : yM Tryz.prog [] 101 [Zl x, Zl y] 3 1 (vO x y).length (fun i _ => .i ((vO x y).getD i 0)) :=
 qz mixed ng (Eq.mp (by kernel_rfl) (lB x y hx hy hlx hly) : rJ Tryz.prog Eo 101 (sI x y) [Zl x, Zl y] 3 1 (vO x y).length (fun i _ => .i ((vO x y).getD i 0)))
def S7 : List AV → Option (List zN × TypeId × Nat × Nat × (Nat → Nat → AV))
 | [x, y] => some ([.b (ze Int x), .b (ze Int y), .p (ZR 1000000000 (zU x)), .p (ZR 1000000000 (zU y)), .p ((zU x).length ≤ 1000000000), .p ((zU y).length ≤ 1000000000)], 3, 1, (vO (zU x) (zU y)).length, fun i _ => .i ((vO (zU x) (zU y)).getD i 0))
 | _ => none
theorem JX : UB Tryz.prog [] 101 S7 := by
 intro xs ps ty sz len els h hp
 unfold S7 at h
 split at h
 ·rename_i x y
  cases h
  have q0 : ze Int x = true := hp (.b (ze Int x)) (by simp)
  have q1 : ze Int y = true := hp (.b (ze Int y)) (by simp)
  have q2 : ZR 1000000000 (zU x) := hp (.p (ZR 1000000000 (zU x))) (by simp)
  have q3 : ZR 1000000000 (zU y) := hp (.p (ZR 1000000000 (zU y))) (by simp)
  have q4 : (zU x).length ≤ 1000000000 := hp (.p ((zU x).length ≤ 1000000000)) (by simp)
  have q5 : (zU y).length ≤ 1000000000 := hp (.p ((zU y).length ≤ 1000000000)) (by simp)
  exact jc (ys := [Zl (zU x), Zl (zU y)]) ⟨zI q0, zI q1, trivial⟩ (kG q2 q3 q4 q5)
 ·cases h
end Go.Te
