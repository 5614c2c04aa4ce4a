/- integer: write, result; strings.Repeat of the digit 0. -/
import Derived.Test.YthbpnknhfokadaaGreatDoorThI0
set_option linter.unusedSimpArgs false
set_option linter.unusedVariables false
namespace Go.Te
open Go Go.Sx Go.Proofs Go.Ar Go.Lib
set_option maxRecDepth 100000
set_option maxHeartbeats 4000000
def mL : List AV → Option (List zk × AV)
 | [.str s, .v (.int .i64 k)] => some ([.b (s == [48]), .p (0 ≤ k ∧ k ≤ 14)], .str (List.replicate k.toNat 48))
 | _ => none
theorem j8  :
 True := by
 trivial
theorem K5  :
 True := by
 trivial
theorem iS  :
 True := by
 trivial
theorem J7  :
 True := by
 trivial
theorem jX  :
 True := by
 trivial
theorem Jt  :
 True := by
 trivial
theorem jv  :
 True := by
 trivial
theorem jl  :
 True := by
 trivial
theorem JS  :
 True := by
 trivial
theorem JF  :
 True := by
 trivial
theorem kT  :
 True := by
 trivial
theorem Lr  :
 True := by
 trivial
theorem Lh  :
 True := by
 trivial
theorem kR  :
 True := by
 trivial
theorem kA  :
 True := by
 trivial
theorem yA {k : Int} {n : Nat} (e : k = n) (h : Qa Tryz.prog (T0.deep Tryz.prog 5) 116 .auto [.str [48], .i k] (Ho (List.replicate n 48))) : zU Tryz.prog [] 116 [.str [48], .i k] (.str (List.replicate k.toNat 48)) := by
 subst e
 exact rH mixed (zz.deep mixed zo 5) Mi h
theorem Kc : zO Tryz.prog [] 116 mL := by
 intro xs ps r h hp
 unfold mL at h
 split at h
 ·rename_i s k
  cases h
  have q : (s == [48]) = true := hp _ List.mem_cons_self
  have q1 : 0 ≤ k ∧ k ≤ 14 := hp _ (List.mem_cons_of_mem _ List.mem_cons_self)
  obtain rfl := eq_of_beq q
  obtain ⟨n, rfl⟩ : ∃ n : Nat, k = n := ⟨k.toNat, by omega⟩
  match n, q1 with
  | 0, _ => exact yA rfl (Eq.mp (by kernel_rfl) j8)
  | 1, _ => exact yA rfl (Eq.mp (by kernel_rfl) K5)
  | 2, _ => exact yA rfl (Eq.mp (by kernel_rfl) iS)
  | 3, _ => exact yA rfl (Eq.mp (by kernel_rfl) J7)
  | 4, _ => exact yA rfl (Eq.mp (by kernel_rfl) jX)
  | 5, _ => exact yA rfl (Eq.mp (by kernel_rfl) Jt)
  | 6, _ => exact yA rfl (Eq.mp (by kernel_rfl) jv)
  | 7, _ => exact yA rfl (Eq.mp (by kernel_rfl) jl)
  | 8, _ => exact yA rfl (Eq.mp (by kernel_rfl) JS)
  | 9, _ => exact yA rfl (Eq.mp (by kernel_rfl) JF)
  | 10, _ => exact yA rfl (Eq.mp (by kernel_rfl) kT)
  | 11, _ => exact yA rfl (Eq.mp (by kernel_rfl) Lr)
  | 12, _ => exact yA rfl (Eq.mp (by kernel_rfl) Lh)
  | 13, _ => exact yA rfl (Eq.mp (by kernel_rfl) kR)
  | 14, _ => exact yA rfl (Eq.mp (by kernel_rfl) kA)
  | n + 15, q1 => exact absurd q1.2 (by omega)
 ·cases h
def Tb.own1 (T : Tb) (f : FuncId) (t : Nat → (Nat → OB) → List AV → (Nat → (Nat → OB) → AV → Prop) → Prop) : Tb := { T with own := fun g => bif Nat.beq g f then some t else T.own g }
theorem zz.own1 {P : Program} {T : Tb} (hT : zz P T) {f : FuncId} {t : Nat → (Nat → OB) → List AV → (Nat → (Nat → OB) → AV → Prop) → Prop} (ht : tO P T.objs f t) : zz P (Tb.own1 T f t) := by
 refine ⟨fun g t' h => ?_, hT.pu, hT.fre⟩
 simp only [Tb.own1] at h
 cases hx : Nat.beq g f with
 | false => rw [hx] at h; exact hT.own _ _ h
 | true =>
  rw [hx] at h
  obtain rfl := Nat.eq_of_beq_eq_true hx
  cases h
  exact ht
noncomputable def gW (G : List (Nat × Obj)) : Tb := (Tb.own1 (Tb.own1 (oQ G) 189 HP) 160 Mg).body Tryz.prog [(185, .auto), (158, .auto), (159, .auto), (177, .auto)]
theorem PN {G : List (Nat × Obj)} (hG : zN G) : zz Tryz.prog (gW G) := zz.body mixed (zz.own1 (zz.own1 (yO hG) (J8 G)) (M5 G)) _
noncomputable def gM (G : List (Nat × Obj)) : Tb := (gW G).plus 116 mL
theorem Pb {G : List (Nat × Obj)} (hG : zN G) : zz Tryz.prog (gM G) := zz.plus (PN hG) (zO.mono Kc)
def ze (x : Big) (z : Nat) : zI := (bif x.neg then [45] else []) ++ Lib.decDigits (wI 1000000000 x.l z)
def Ib (σ : zi) : Nat :=
 match σ.bl 1 with
 | .box _ _ cs => Yl (cs 1)
 | _ => 0
def JR (x : Big) : yq :=
 .two .auto (.one (.two .auto (.unroll (x.l.length + 1) (.loop Nat (fun σ z => [(0, σ.tm 0), (1, σ.tm 1), (3, .i ((z : Int) - 1))])
  (fun σ z => [(1, .box 210 2 (zw [.np 1 0, .ns σ.nb 0 (ze x z).length])), (Ib σ, .dead), (σ.nb, HL (ze x z))]) 1 (fun _ z => z < x.l.length) (fun _ z => z) .auto))))
def J2 (x : Big) : yq :=
 .two .auto (.two .auto (.two .auto (.two .auto (.two (.two .auto (.one (.range (JR x) .auto .auto))) .auto))))
theorem TN (a b : zI) (i : Nat) : (a ++ b).getD i 0 = if i < a.length then a.getD i 0 else b.getD (i - a.length) 0 := by
 by_cases h : i < a.length
 ·rw [if_pos h, List.getD_eq_getElem?_getD, List.getElem?_append_left h, ← List.getD_eq_getElem?_getD]
 ·rw [if_neg h, List.getD_eq_getElem?_getD, List.getElem?_append_right (by omega), ← List.getD_eq_getElem?_getD]
theorem HO (a b : zI) (i : Nat) : zb (if i < a.length then AV.v (Value.int IntKind.u8 ((a.getD i 0).toNat : Int)) else AV.v (Value.int IntKind.u8 ((b.getD (i - a.length) 0).toNat : Int))) (AV.v (Value.int IntKind.u8 (((a ++ b).getD i 0).toNat : Int))) := by
 rw [TN]
 split <;> exact zT _
theorem HA (a b c : zI) (i : Nat) : zb (if i < a.length + b.length then (if i < a.length then AV.v (Value.int IntKind.u8 ((a.getD i 0).toNat : Int)) else AV.v (Value.int IntKind.u8 ((b.getD (i - a.length) 0).toNat : Int))) else AV.v (Value.int IntKind.u8 ((c.getD (i - (a.length + b.length)) 0).toNat : Int))) (AV.v (Value.int IntKind.u8 (((a ++ b ++ c).getD i 0).toNat : Int))) := by
 rw [TN (a ++ b) c, List.length_append]
 split
 ·exact HO a b i
 ·exact zT _
theorem HG (c : UInt8) (b : zI) (i : Nat) : zb (if i < 1 then AV.v (Value.int IntKind.u8 (c.toNat : Int)) else AV.v (Value.int IntKind.u8 ((b.getD (i - 1) 0).toNat : Int))) (AV.v (Value.int IntKind.u8 (((c :: b).getD i 0).toNat : Int))) := by
 match i with
 | 0 => exact zT _
 | i + 1 => rw [if_neg (by omega)]; exact zT _
theorem Wq {n : Int} (h0 : 0 ≤ n) (h1 : n < 1000000000) : 1 ≤ (itoa n).length ∧ (itoa n).length ≤ 9 ∧ itoa n = decDigits n.toNat := by
 obtain ⟨m, rfl⟩ : ∃ m : Nat, n = m := ⟨n.toNat, by omega⟩
 have e : itoa (m : Int) = decDigits m := Go.Ar.Z6 m
 rw [Int.toNat_natCast, e]
 refine ⟨yF m, ?_, rfl⟩
 rw [Lib.decDigits_length]
 exact (z7 (by omega)).2 (by omega)
theorem mC {x : Big} (hx : ZP 1000000000 x.l) (h : 0 < x.l.length) : ze x (x.l.length - 1) = (bif x.neg then [45] else []) ++ itoa (x.l.getD (x.l.length - 1) 0) := by
 have g := hx.get (by omega) (x.l.length - 1)
 rw [(Wq g.1 g.2).2.2]
 unfold ze
 rw [P4 h]
theorem m6 {l : List Int} (hx : ZP 1000000000 l) (ht : zH l = l) {z : Nat} (hz : z < l.length) : wI 1000000000 l z ≠ 0 := by
 have e : l = zu 1000000000 (zv 1000000000 l).toNat := X5 (b := 1000000000) (by omega) hx ht
 have hn : (zv 1000000000 l).toNat ≠ 0 := fun e0 => by
  rw [e0, Z0] at e
  rw [e] at hz
  exact absurd hz (Nat.not_lt_zero _)
 rw [e] at hz ⊢
 exact OF (b := 1000000000) (by omega) hn hz
theorem Mh {x : Big} (hx : ZP 1000000000 x.l) (ht : zH x.l = x.l) {z : Nat} (h0 : 0 < z) (h : z < x.l.length) :
  ze x (z - 1) = ze x z ++ List.replicate (9 - ((itoa (x.l.getD (z - 1) 0)).length : Int)).toNat 48 ++ itoa (x.l.getD (z - 1) 0) := by
 have g := hx.get (by omega) (z - 1)
 obtain ⟨g1, g2, g3⟩ := Wq g.1 g.2
 have hs := og (k := 9) (l := x.l) (by omega) hx (i := z - 1) (by omega) (by rw [show z - 1 + 1 = z by omega]; exact m6 hx ht h)
 rw [show z - 1 + 1 = z by omega] at hs
 unfold ze
 rw [show decDigits (wI 1000000000 x.l (z - 1)) = decDigits (wI 1000000000 x.l z) ++ Uq 9 (x.l.getD (z - 1) 0).toNat from hs]
 unfold Uq
 rw [← g3, show (9 - ((itoa (x.l.getD (z - 1) 0)).length : Int)).toNat = 9 - (itoa (x.l.getD (z - 1) 0)).length by omega]
 simp only [List.append_assoc]
theorem jb {x : Big} (hx : ZP 1000000000 x.l) (z : Nat) : (ze x z).length ≤ 9 * x.l.length + 2 := by
 unfold ze
 rw [List.length_append]
 have h1 : (bif x.neg then [(45 : UInt8)] else []).length ≤ 1 := by cases x.neg <;> simp
 have h2 : (decDigits (wI 1000000000 x.l z)).length ≤ 9 * x.l.length + 1 := by
  rw [Lib.decDigits_length]
  refine (z7 (by omega)).2 ?_
  have h3 := YG (b := 1000000000) (by omega) (hx.drop z)
  have h4 := zd (b := 1000000000) (by omega) (hx.drop z)
  unfold wI
  have h5 : (1000000000 : Nat) ^ (x.l.drop z).length ≤ 1000000000 ^ x.l.length := Nat.pow_le_pow_right (by omega) (by simp)
  have h6 : (1000000000 : Nat) ^ x.l.length = 10 ^ (9 * x.l.length) := by rw [Nat.pow_mul]
  have h7 : 10 ^ (9 * x.l.length) ≤ 10 ^ (9 * x.l.length + 1) := Nat.pow_le_pow_right (by omega) (by omega)
  have h8 : (zv 1000000000 (x.l.drop z)).toNat < 1000000000 ^ (x.l.drop z).length := by
   have : ((zv 1000000000 (x.l.drop z)).toNat : Int) < ((1000000000 ^ (x.l.drop z).length : Nat) : Int) := by rw [Int.toNat_of_nonneg h4, Int.natCast_pow]; exact h3
   omega
  exact Nat.lt_of_lt_of_le h8 (by omega)
 omega
theorem Ju {x : Big} (hx : ZP 1000000000 x.l) (ht : zH x.l = x.l) (h : 0 < x.l.length) : ze x 0 = itoa (bif x.neg then - zv 1000000000 x.l else zv 1000000000 x.l) ∧ 0 < (ze x 0).length := by
 have hz := m6 hx ht h
 have e : wI 1000000000 x.l 0 = (zv 1000000000 x.l).toNat := by unfold wI; rw [List.drop_zero]; rfl
 rw [e] at hz
 unfold ze
 rw [e]
 obtain ⟨n, hn⟩ : ∃ n : Nat, zv 1000000000 x.l = n := ⟨(zv 1000000000 x.l).toNat, by omega⟩
 rw [hn] at hz ⊢
 rw [Int.toNat_natCast] at hz ⊢
 refine ⟨?_, by have := yF n; simp; omega⟩
 cases x.neg with
 | true => exact (Go.Ar.itoa_neg (by omega)).symm
 | false => exact (Go.Ar.Z6 n).symm
def UU : List AV → Option (List zk × AV)
 | [x_x] => some ([.b (yp Big x_x), .p (ZP 1000000000 (yR (α := Big) x_x).l), .p (zH (yR (α := Big) x_x).l = (yR (α := Big) x_x).l), .p ((yR (α := Big) x_x).l.length ≤ 100000000)], .str (itoa (bif (yR (α := Big) x_x).neg then - zv 1000000000 (yR (α := Big) x_x).l else zv 1000000000 (yR (α := Big) x_x).l)))
 | _ => none
theorem oU (G : List (Nat × Obj)) (x : Big) (hx : ZP 1000000000 x.l) (ht : zH x.l = x.l) (hl : x.l.length ≤ 100000000) :
 let q1 := (bif Big.neg x then -zv iB (Big.l x) else zv iB (Big.l x)); let q3 := ((lZ (Big.l x)) - iO); let q2 := (dK q3); let q4 := (leB iZ q3); let q5 := (DB.db (iZ ≤ (lZ (Big.l x)) - iO ∧ (lZ (Big.l x)) - iO < (lZ (Big.l x)))); let q7 := (Int.toNat q3); let q6 := (iN ≤ gD (Big.l x) q7 zS.dflt ∧ gD (Big.l x) q7 zS.dflt ≤ iX); let q8 := (zF q3 q3); let q12 := (itoa
 (gD (Big.l x) q7 zS.dflt)); let q11 := (lZ q12); let q10 := ((9 : Int) - q11); let q9 := (dK q10); let q13 := (iZ ≤ (9 : Int) - q11 ∧ (9 : Int) - q11 ≤ (14 : Int)); let q15 := (List.replicate (Int.toNat q10) (48 : UInt8)); let q14 := (1 + lN q15); let q16 := (dK ((lZ (Big.l x)) - iO - iO)); let q18 := (xI (Big.l x)); let q17 := (143 = 143 ∧ 2 = 2 ∧ Big.neg x = Big.neg x ∧ zb q18 q18); Zv [AV.agg 2
 (zS.enc x)] → zZ ((lZ (Big.l x)) == iZ) (bA #[(48 : UInt8)] = itoa q1) (zZ (Big.neg x) (bF q2 (zZ q4 (bF q5 (q6 ∧ bF q2 (zZ q8 (bF q9 (q13 ∧ bF (DB.db (q14 * 1 ≤ 140737488355328)) (bF (DB.db ((1 + lN q15 + lN q12) * 1 ≤ 140737488355328)) (bF q16 ((∃ (z : Nat), ((z < lN (Big.l x) ∧ z < lN (Big.l x) + 1) ∧ nat_lit 4 = 4 ∧ (nat_lit 3 = 3 ∧ 0 = 0) ∧ kI ∧ (lZ (Big.l x)) - iO - iO = (cI z) - iO) ∧
 ((((((q17 ∧ 210 = 210 ∧ 2 = 2 ∧ (1 = 1 ∧ 0 = 0) ∧ nat_lit 7 = 7 ∧ 0 = 0 ∧ lN (ze x z) = 1 + lN q15 + lN q12) ∧ True) ∧ 141 = 141 ∧ 1 = 1 ∧ zb q18 q18) ∧ lR) ∧ True) ∧ True) ∧ (5 : TypeId) = 5 ∧ 1 = 1 ∧ lN (ze x z) = 1 + lN q15 + lN q12 ∧ ∀ (i j : Nat), i < 1 + lN q15 + lN q12 → j < 1 → zb (if i < 1 + lN q15 then if i < 1 then Sx.rowAt [fun (x : Nat) => AV.v (Value.int IntKind.u8 (45 : Int))] i j else a8 (gD q15
 (i - 1) (0 : UInt8)) else a8 (gD q12 (i - q14) (0 : UInt8))) (a8 (gD (ze x z) i (0 : UInt8)))) ∧ ∀ (z : Nat), let q21 := (itoa (gD (Big.l x) (Int.toNat ((cI z) - iO)) zS.dflt)); let q20 := (lZ q21); let q19 := ((9 : Int) - q20); let q23 := (List.replicate (Int.toNat q19) (48 : UInt8)); let q22 := (lN (ze x z) + lN q23); let q24 := (dK ((cI z) - iO - iO)); z < lN (Big.l x) →
 zZ (leB iZ ((cI z) - iO)) (bF (DB.db (iZ ≤ (cI z) - iO ∧ (cI z) - iO < (lZ (Big.l x)))) ((iN ≤ gD (Big.l x) (Int.toNat ((cI z) - iO)) zS.dflt ∧ gD (Big.l x) (Int.toNat ((cI z) - iO)) zS.dflt ≤ iX) ∧ bF q2 (zZ (zF ((cI z) - iO) q3) (bF (dK q19) ((iZ ≤ (9 : Int) - q20 ∧ (9 : Int) - q20 ≤ (14 : Int)) ∧ bF (DB.db (q22 * 1 ≤ 140737488355328)) (bF (DB.db ((lN (ze x z) +
 lN q23 + lN q21) * 1 ≤ 140737488355328)) (bF q24 (∃ (z' : Nat), ((z' < lN (Big.l x) ∧ z' < z) ∧ nat_lit 4 = 4 ∧ (nat_lit 3 = 3 ∧ 0 = 0) ∧ kI ∧ (cI z) - iO - iO = (cI z') - iO) ∧ ((((((q17 ∧ 210 = 210 ∧ 2 = 2 ∧ (1 = 1 ∧ 0 = 0) ∧ nat_lit 7 = 7 ∧ 0 = 0 ∧ lN (ze x z') = lN (ze x z) + lN q23 + lN q21) ∧ True) ∧ 141 = 141 ∧ 1 = 1 ∧ zb q18 q18) ∧ lR) ∧ True) ∧ True) ∧ (5 : TypeId) = 5 ∧ 1 = 1 ∧ lN (ze x z') = List.length
 (ze x z) + lN q23 + lN q21 ∧ ∀ (i j : Nat), i < lN (ze x z) + lN q23 + lN q21 → j < 1 → zb (if i < lN (ze x z) + lN q23 then if i < lN (ze x z) then a8 (gD (ze x z) i (0 : UInt8)) else a8 (gD q23 (i - lN (ze x z)) (0 : UInt8)) else a8 (gD q21 (i - q22) (0 : UInt8))) (a8 (gD (ze x z') i (0 :
 UInt8)))))))) (bF (DB.db ((lN (ze x z) + lN q21) * 1 ≤ 140737488355328)) (bF q24 (∃ (z' : Nat), ((z' < lN (Big.l x) ∧ z' < z) ∧ nat_lit 4 = 4 ∧ (nat_lit 3 = 3 ∧ 0 = 0) ∧ kI ∧ (cI z) - iO - iO = (cI z') - iO) ∧ ((((((q17 ∧ 210 = 210 ∧ 2 = 2 ∧ (1 = 1 ∧ 0 = 0) ∧ nat_lit 7 = 7 ∧ 0 = 0 ∧ lN (ze x z') = lN (ze x z) + lN q21) ∧ True) ∧ 141 = 141 ∧ 1 = 1 ∧ zb q18 q18) ∧ lR) ∧ True) ∧ True) ∧ (5 : TypeId) =
 5 ∧ 1 = 1 ∧ lN (ze x z') = lN (ze x z) + lN q21 ∧ ∀ (i j : Nat), i < lN (ze x z) + lN q21 → j < 1 → zb (if i < lN (ze x z) then a8 (gD (ze x z) i (0 : UInt8)) else a8 (gD q21 (i - lN (ze x z)) (0 : UInt8))) (a8 (gD (ze x z') i (0 : UInt8))))))))) (0 < lN (ze x z) ∧ ∃ (l : List UInt8), lN l = lN (ze x
 z) ∧ (∀ (i : Nat), i < lN (ze x z) → a8 (gD (ze x z) i (0 : UInt8)) = a8 (gD l i (0 : UInt8))) ∧ l = itoa q1)))))) (zZ (DB.db ((1 + lN q12) * 1 ≤ 140737488355328)) (bF q16 ((∃ (z : Nat), ((z < lN (Big.l x) ∧ z < lN (Big.l x) + 1) ∧ nat_lit 4 = 4 ∧ (nat_lit 3 = 3 ∧ 0 = 0) ∧ kI ∧ (lZ (Big.l x)) - iO - iO = (cI z) - iO) ∧ (((((q17 ∧ 210 = 210 ∧ 2 = 2 ∧ (1 = 1 ∧
 0 = 0) ∧ nat_lit 6 = 6 ∧ 0 = 0 ∧ lN (ze x z) = 1 + lN q12) ∧ True) ∧ 141 = 141 ∧ 1 = 1 ∧ zb q18 q18) ∧ lR) ∧ True) ∧ (5 : TypeId) = 5 ∧ 1 = 1 ∧ lN (ze x z) = 1 + lN q12 ∧ ∀ (i j : Nat), i < 1 + lN q12 → j < 1 → zb (if i < 1 then Sx.rowAt [fun (x : Nat) => AV.v (Value.int IntKind.u8 (45 : Int))] i j else a8 (gD q12 (i - 1) (0 : UInt8))) (a8 (gD (ze x z) i (0 : UInt8)))) ∧ ∀ (z :
 Nat), let q27 := (itoa (gD (Big.l x) (Int.toNat ((cI z) - iO)) zS.dflt)); let q26 := (lZ q27); let q25 := ((9 : Int) - q26); let q29 := (List.replicate (Int.toNat q25) (48 : UInt8)); let q28 := (lN (ze x z) + lN q29); let q30 := (dK ((cI z) - iO - iO)); z < lN (Big.l x) → zZ (leB iZ ((cI z) - iO)) (bF (DB.db (iZ ≤ (cI z) - iO ∧ (cI z) - iO < (lZ (Big.l x)))) ((iN ≤ gD (Big.l x) (Int.toNat ((↑z
 : Int) - iO)) zS.dflt ∧ gD (Big.l x) (Int.toNat ((cI z) - iO)) zS.dflt ≤ iX) ∧ bF q2 (zZ (zF ((cI z) - iO) q3) (bF (dK q25) ((iZ ≤ (9 : Int) - q26 ∧ (9 : Int) - q26 ≤ (14 : Int)) ∧ bF (DB.db (q28 * 1 ≤ 140737488355328)) (bF (DB.db ((lN (ze x z) + lN q29 + lN q27) * 1 ≤ 140737488355328)) (bF q30 (∃ (z' : Nat), ((z' < lN (Big.l x) ∧ z' < z) ∧ nat_lit 4 = 4 ∧ (nat_lit 3 = 3 ∧ 0 = 0) ∧ kI ∧ (cI z) - iO - iO = (cI z')
 - iO) ∧ (((((q17 ∧ 210 = 210 ∧ 2 = 2 ∧ (1 = 1 ∧ 0 = 0) ∧ nat_lit 6 = 6 ∧ 0 = 0 ∧ lN (ze x z') = lN (ze x z) + lN q29 + lN q27) ∧ True) ∧ 141 = 141 ∧ 1 = 1 ∧ zb q18 q18) ∧ lR) ∧ True) ∧ (5 : TypeId) = 5 ∧ 1 = 1 ∧ lN (ze x z') = lN (ze x z) + lN q29 + lN q27 ∧ ∀ (i j : Nat), i < lN (ze x z) + lN q29 + lN q27 → j < 1 → zb (if i < lN (ze x z) + lN q29 then if i < lN (ze x z) then AV.v (Value.int
 IntKind.u8 (cI (UInt8.toNat (gD (ze x z) i (0 : UInt8))))) else a8 (gD q29 (i - lN (ze x z)) (0 : UInt8)) else a8 (gD q27 (i - q28) (0 : UInt8))) (a8 (gD (ze x z') i (0 : UInt8)))))))) (bF (DB.db ((lN (ze x z) + lN q27) * 1 ≤ 140737488355328)) (bF q30 (∃ (z' : Nat), ((z' < lN (Big.l x) ∧ z' < z) ∧ nat_lit 4 = 4 ∧ (nat_lit 3 = 3 ∧ 0 = 0) ∧
 kI ∧ (cI z) - iO - iO = (cI z') - iO) ∧ (((((q17 ∧ 210 = 210 ∧ 2 = 2 ∧ (1 = 1 ∧ 0 = 0) ∧ nat_lit 6 = 6 ∧ 0 = 0 ∧ lN (ze x z') = lN (ze x z) + lN q27) ∧ True) ∧ 141 = 141 ∧ 1 = 1 ∧ zb q18 q18) ∧ lR) ∧ True) ∧ (5 : TypeId) = 5 ∧ 1 = 1 ∧ lN (ze x z') = lN (ze x z) + lN q27 ∧ ∀ (i j : Nat), i < lN (ze x z) + lN q27 → j < 1 → zb (if i < lN (ze x z) then a8 (List.getD
 (ze x z) i (0 : UInt8)) else a8 (gD q27 (i - lN (ze x z)) (0 : UInt8))) (a8 (gD (ze x z') i (0 : UInt8))))))))) (0 < lN (ze x z) ∧ ∃ (l : List UInt8), lN l = lN (ze x z) ∧ (∀ (i : Nat), i < lN (ze x z) → a8 (gD (ze x z) i (0 : UInt8)) = a8 (gD l i (0 : UInt8))) ∧ l = itoa q1)))
 False)))) (0 < 1 ∧ ∃ (l : List UInt8), lN l = 1 ∧ (∀ (i : Nat), i < 1 → Sx.rowAt [fun (x : Nat) => AV.v (Value.int IntKind.u8 (45 : Int))] i 0 = a8 (gD l i (0 : UInt8))) ∧ l = itoa q1))) (bF q2 (zZ q4 (bF q5 (q6 ∧ bF q2 (zZ q8 (bF q9 (q13 ∧ bF (DB.db (lN q15 * 1 ≤ 140737488355328)) (bF (DB.db ((lN q15 + lN q12) * 1 ≤ 140737488355328)) (bF q16 ((∃ (z : Nat), ((z < lN (Big.l x) ∧ z < lN (Big.l x) + 1) ∧ nat_lit 3 = 3 ∧ (nat_lit 2 = 2 ∧
 0 = 0) ∧ kI ∧ (lZ (Big.l x)) - iO - iO = (cI z) - iO) ∧ (((((q17 ∧ 210 = 210 ∧ 2 = 2 ∧ (1 = 1 ∧ 0 = 0) ∧ nat_lit 6 = 6 ∧ 0 = 0 ∧ lN (ze x z) = lN q15 + lN q12) ∧ 141 = 141 ∧ 1 = 1 ∧ zb q18 q18) ∧ lR) ∧ True) ∧ True) ∧ (5 : TypeId) = 5 ∧ 1 = 1 ∧ lN (ze x z) = lN q15 + lN q12 ∧ ∀ (i j : Nat), i < lN q15 + lN q12 → j < 1 → zb (if i < lN q15 then a8 (gD q15
 i (0 : UInt8)) else a8 (gD q12 (i - lN q15) (0 : UInt8))) (a8 (gD (ze x z) i (0 : UInt8)))) ∧ ∀ (z : Nat), let q33 := (itoa (gD (Big.l x) (Int.toNat ((cI z) - iO)) zS.dflt)); let q32 := (lZ q33); let q31 := ((9 : Int) - q32); let q35 := (List.replicate (Int.toNat q31) (48 : UInt8)); let q34 := (lN (ze x z) + lN q35); let q36 := (dK ((cI z) - iO - iO)); z < lN (Big.l x) →
 zZ (leB iZ ((cI z) - iO)) (bF (DB.db (iZ ≤ (cI z) - iO ∧ (cI z) - iO < (lZ (Big.l x)))) ((iN ≤ gD (Big.l x) (Int.toNat ((cI z) - iO)) zS.dflt ∧ gD (Big.l x) (Int.toNat ((cI z) - iO)) zS.dflt ≤ iX) ∧ bF q2 (zZ (zF ((cI z) - iO) q3) (bF (dK q31) ((iZ ≤ (9 : Int) - q32 ∧ (9 : Int) - q32 ≤ (14 : Int)) ∧ bF (DB.db (q34 * 1 ≤ 140737488355328)) (bF (DB.db ((lN (ze x z) +
 lN q35 + lN q33) * 1 ≤ 140737488355328)) (bF q36 (∃ (z' : Nat), ((z' < lN (Big.l x) ∧ z' < z) ∧ nat_lit 3 = 3 ∧ (nat_lit 2 = 2 ∧ 0 = 0) ∧ kI ∧ (cI z) - iO - iO = (cI z') - iO) ∧ (((((q17 ∧ 210 = 210 ∧ 2 = 2 ∧ (1 = 1 ∧ 0 = 0) ∧ nat_lit 6 = 6 ∧ 0 = 0 ∧ lN (ze x z') = lN (ze x z) + lN q35 + lN q33) ∧ 141 = 141 ∧ 1 = 1 ∧ zb q18 q18) ∧ lR) ∧ True) ∧ True) ∧ (5 : TypeId) = 5 ∧ 1 = 1 ∧ lN (ze x z') = lN (ze x z)
 + lN q35 + lN q33 ∧ ∀ (i j : Nat), i < lN (ze x z) + lN q35 + lN q33 → j < 1 → zb (if i < lN (ze x z) + lN q35 then if i < lN (ze x z) then a8 (gD (ze x z) i (0 : UInt8)) else a8 (gD q35 (i - lN (ze x z)) (0 : UInt8)) else a8 (gD q33 (i - q34) (0 : UInt8))) (AV.v (Value.int IntKind.u8 (↑(UInt8.toNat (gD (ze x z') i (0 : UInt8))) :
 Int)))))))) (bF (DB.db ((lN (ze x z) + lN q33) * 1 ≤ 140737488355328)) (bF q36 (∃ (z' : Nat), ((z' < lN (Big.l x) ∧ z' < z) ∧ nat_lit 3 = 3 ∧ (nat_lit 2 = 2 ∧ 0 = 0) ∧ kI ∧ (cI z) - iO - iO = (cI z') - iO) ∧ (((((q17 ∧ 210 = 210 ∧ 2 = 2 ∧ (1 = 1 ∧ 0 = 0) ∧ nat_lit 6 = 6 ∧ 0 = 0 ∧ lN (ze x z') = lN (ze x z) + lN q33) ∧ 141 = 141 ∧ 1 = 1 ∧ zb q18 q18) ∧ lR) ∧ True) ∧ True) ∧ (5 : TypeId) = 5 ∧ 1 = 1 ∧
 lN (ze x z') = lN (ze x z) + lN q33 ∧ ∀ (i j : Nat), i < lN (ze x z) + lN q33 → j < 1 → zb (if i < lN (ze x z) then a8 (gD (ze x z) i (0 : UInt8)) else a8 (gD q33 (i - lN (ze x z)) (0 : UInt8))) (a8 (gD (ze x z') i (0 : UInt8))))))))) (0 < lN (ze x z) ∧ ∃ (l : List UInt8), lN l = lN (ze x z) ∧ (∀ (i :
 Nat), i < lN (ze x z) → a8 (gD (ze x z) i (0 : UInt8)) = a8 (gD l i (0 : UInt8))) ∧ l = itoa q1)))))) (bF (DB.db (lN q12 * 1 ≤ 140737488355328)) (bF q16 ((∃ (z : Nat), ((z < lN (Big.l x) ∧ z < lN (Big.l x) + 1) ∧ nat_lit 3 = 3 ∧ (nat_lit 2 = 2 ∧ 0 = 0) ∧ kI ∧ (lZ (Big.l x)) - iO - iO = (cI z) - iO) ∧ ((((q17 ∧ 210 = 210 ∧ 2 = 2 ∧ (1 = 1 ∧ 0 = 0) ∧ nat_lit 5
 = 5 ∧ 0 = 0 ∧ lN (ze x z) = lN q12) ∧ 141 = 141 ∧ 1 = 1 ∧ zb q18 q18) ∧ lR) ∧ True) ∧ (5 : TypeId) = 5 ∧ 1 = 1 ∧ lN (ze x z) = lN q12 ∧ ∀ (i j : Nat), i < lN q12 → j < 1 → IntKind.u8 = IntKind.u8 ∧ (cI (UInt8.toNat (gD q12 i (0 : UInt8)))) = (cI (UInt8.toNat (gD (ze x z) i (0 : UInt8))))) ∧ ∀ (z : Nat), let q39 := (itoa (gD (Big.l x) (Int.toNat ((cI z) - iO)) zS.dflt)); let q38 := (lZ q39); let q37 := ((9 : Int) - q38); let q41 :=
 (List.replicate (Int.toNat q37) (48 : UInt8)); let q40 := (lN (ze x z) + lN q41); let q42 := (dK ((cI z) - iO - iO)); z < lN (Big.l x) → zZ (leB iZ ((cI z) - iO)) (bF (DB.db (iZ ≤ (cI z) - iO ∧ (cI z) - iO < (lZ (Big.l x)))) ((iN ≤ gD (Big.l x) (Int.toNat ((cI z) - iO)) zS.dflt ∧ gD (Big.l x) (Int.toNat ((cI z) - iO)) zS.dflt ≤ iX) ∧ bF q2 (zZ (zF ((cI z) - (1 :
 Int)) q3) (bF (dK q37) ((iZ ≤ (9 : Int) - q38 ∧ (9 : Int) - q38 ≤ (14 : Int)) ∧ bF (DB.db (q40 * 1 ≤ 140737488355328)) (bF (DB.db ((lN (ze x z) + lN q41 + lN q39) * 1 ≤ 140737488355328)) (bF q42 (∃ (z' : Nat), ((z' < lN (Big.l x) ∧ z' < z) ∧ nat_lit 3 = 3 ∧ (nat_lit 2 = 2 ∧ 0 = 0) ∧ kI ∧ (cI z) - iO - iO = (cI z') - iO) ∧ ((((q17 ∧ 210 = 210 ∧ 2 = 2 ∧ (1 = 1 ∧ 0 = 0) ∧ nat_lit 5 = 5 ∧ 0 = 0 ∧ lN (ze x z') = lN (ze x z) + lN q41 + lN q39)
 ∧ 141 = 141 ∧ 1 = 1 ∧ zb q18 q18) ∧ lR) ∧ True) ∧ (5 : TypeId) = 5 ∧ 1 = 1 ∧ lN (ze x z') = lN (ze x z) + lN q41 + lN q39 ∧ ∀ (i j : Nat), i < lN (ze x z) + lN q41 + lN q39 → j < 1 → zb (if i < lN (ze x z) + lN q41 then if i < lN (ze x z) then a8 (gD (ze x z) i (0 : UInt8)) else a8 (gD q41 (i - lN (ze x z)) (0 : UInt8))
 else a8 (gD q39 (i - q40) (0 : UInt8))) (a8 (gD (ze x z') i (0 : UInt8)))))))) (bF (DB.db ((lN (ze x z) + lN q39) * 1 ≤ 140737488355328)) (bF q42 (∃ (z' : Nat), ((z' < lN (Big.l x) ∧ z' < z) ∧ nat_lit 3 = 3 ∧ (nat_lit 2 = 2 ∧ 0 = 0) ∧ kI ∧ (cI z) - iO - iO = (cI z') - iO) ∧ ((((q17 ∧ 210 = 210 ∧ 2 = 2 ∧ (1 = 1 ∧ 0 = 0) ∧ nat_lit 5 = 5 ∧ 0 = 0 ∧ lN (ze x z') =
 lN (ze x z) + lN q39) ∧ 141 = 141 ∧ 1 = 1 ∧ zb q18 q18) ∧ lR) ∧ True) ∧ (5 : TypeId) = 5 ∧ 1 = 1 ∧ lN (ze x z') = lN (ze x z) + lN q39 ∧ ∀ (i j : Nat), i < lN (ze x z) + lN q39 → j < 1 → zb (if i < lN (ze x z) then a8 (gD (ze x z) i (0 : UInt8)) else a8 (gD q39 (i - lN (ze x z)) (0 : UInt8))) (AV.v (Value.int IntKind.u8 (cI (UInt8.toNat
 (gD (ze x z') i (0 : UInt8)))))))))))) (0 < lN (ze x z) ∧ ∃ (l : List UInt8), lN l = lN (ze x z) ∧ (∀ (i : Nat), i < lN (ze x z) → a8 (gD (ze x z) i (0 : UInt8)) = a8 (gD l i (0 : UInt8))) ∧ l = itoa q1))))))) ([] = itoa q1)))) := by
 delta bF dK bA a8 xI lR cI kI lZ lN gD iZ iO iX iN iB
 dsimp only
 intro hb
 have e0 : (zS.dflt : Int) = 0 := rfl
 simp only [↓yx, ↓ZI, row_one]
 simp only [sS, dS, e0]
 refine ⟨fun hz => ?_, fun hz => ?_⟩
 ·have he : x.l = [] := List.eq_nil_of_length_eq_zero (by omega)
  rw [he]
  have : itoa ((0 : Nat) : Int) = [48] := by rw [Go.Ar.Z6, Zz (by omega)]; rfl
  cases x.neg <;> exact this.symm
 have h0 : 0 < x.l.length := by omega
 have en : ((x.l.length : Int) - 1).toNat = x.l.length - 1 := by omega
 have ez : ∀ z : Nat, ((z : Int) - 1).toNat = z - 1 := fun z => by omega
 simp only [en, ez, Nat.mul_one]
 have gN := hx.get (by omega) (x.l.length - 1)
 obtain ⟨i1, i2, i3⟩ := Wq gN.1 gN.2
 have f1 := mC hx h0
 refine zY.2 ⟨fun c => ⟨⟨by omega, by omega⟩, fun _ => ⟨⟨by omega, by omega⟩, ⟨by omega, by omega⟩, ⟨by omega, by omega⟩, fun h => absurd h (by omega), fun _ => ⟨by omega, ⟨by omega, by omega⟩, ⟨x.l.length - 1, ⟨⟨by omega, by omega⟩, by omega⟩, ?_, ?_, fun i j _ _ => ?_⟩, ?_⟩⟩, fun h => absurd h (by omega)⟩,
  fun c => ⟨⟨by omega, by omega⟩, fun _ => ⟨⟨by omega, by omega⟩, ⟨by omega, by omega⟩, ⟨by omega, by omega⟩, fun h => absurd h (by omega), fun _ => ⟨by omega, ⟨by omega, by omega⟩, ⟨x.l.length - 1, ⟨⟨by omega, by omega⟩, by omega⟩, ?_, ?_, fun i j _ _ => ?_⟩, ?_⟩⟩, fun h => absurd h (by omega)⟩⟩
 all_goals try rw [c] at f1
 ·rw [f1]; simp only [cond_true, List.length_append, List.length_singleton]
 ·rw [f1]; simp only [cond_true, List.length_append, List.length_singleton]
 ·rw [f1]; exact HG 45 _ i
 rotate_left
 ·rw [f1]; rfl
 ·rw [f1]; rfl
 ·rw [f1]; rfl
 all_goals
  intro z hz1
  have wl := jb hx z
  refine ⟨fun hz2 => ?_, fun hz2 => ?_⟩
  ·have g := hx.get (by omega) (z - 1)
   obtain ⟨g1, g2, g3⟩ := Wq g.1 g.2
   have hs := Mh hx ht (z := z) (by omega) hz1
   have lr : (List.replicate (9 - ((itoa (x.l.getD (z - 1) 0)).length : Int)).toNat (48 : UInt8)).length ≤ 8 := by rw [List.length_replicate]; omega
   refine ⟨⟨by omega, by omega⟩, ⟨by omega, by omega⟩, ⟨by omega, by omega⟩, fun _ => ⟨⟨by omega, by omega⟩, ⟨by omega, by omega⟩, by omega, by omega, ⟨by omega, by omega⟩, z - 1, ⟨⟨by omega, by omega⟩, by omega⟩, ?_, ?_, fun i j _ _ => ?_⟩, fun h => absurd h (by omega)⟩
   ·rw [hs, List.length_append, List.length_append]
   ·rw [hs, List.length_append, List.length_append]
   ·rw [hs]; exact HA _ _ _ i
  ·obtain rfl : z = 0 := by omega
   obtain ⟨w1, w2⟩ := Ju hx ht h0
   exact ⟨w2, ze x 0, rfl, fun _ _ => rfl, w1⟩
theorem Ny {G : List (Nat × Obj)} (hG : zN G) (x : Big) (hx : ZP 1000000000 x.l) (ht : zH x.l = x.l) (hl : x.l.length ≤ 100000000) : zU Tryz.prog G 152 [xR x] (.str (itoa (bif x.neg then - zv 1000000000 x.l else zv 1000000000 x.l))) :=
 zW (T := gM G) (an := J2 x) mixed (Pb hG) (Eq.mp (by kernel_rfl) (oU G x hx ht hl))
theorem nW {G : List (Nat × Obj)} (hG : zN G) : zO Tryz.prog G 152 UU := by
 intro xs ps r h hp
 unfold UU at h
 split at h
 ·skip
  rename_i x_x
  cases h
  obtain ⟨q0, q1, q2, q3, -⟩ := ZH hp
  exact weaken (ys := [xR (yR (α := Big) x_x)]) ⟨Zt q0, trivial⟩ (Ny hG (yR (α := Big) x_x) q1 q2 q3)
 ·cases h
end Go.Te

namespace Go.Te
open Go Go.Sx Go.Proofs Go.Ar
set_option maxRecDepth 100000
set_option maxHeartbeats 4000000
def Yz (n : Bool) (l : List Int) : Int := bif n then - zv 1000000000 l else zv 1000000000 l
theorem nB (x : Big) : yR (AV.agg 2 fun i => zS.enc x i) = x := WN x
theorem ot (x : Big) : yp Big (AV.agg 2 fun i => zS.enc x i) = true := X7 x
theorem m9 (n : Int) : (zR (Lib.itoa n)).length = xa n := by
 obtain ⟨h1, h2⟩ := za n
 rw [← (sJ (Lib.itoa n)).2, wP h1, h2]
def WO : List AV → Option (List zk × AV)
 | [x_x] => some ([.b (yp Big x_x), .p (ZP 1000000000 (yR (α := Big) x_x).l), .p (zH (yR (α := Big) x_x).l = (yR (α := Big) x_x).l), .p ((yR (α := Big) x_x).l.length ≤ 100000000)], .tup 2 (zw [.str (Yi (Yz (yR (α := Big) x_x).neg (yR (α := Big) x_x).l)), .i (ZM (Yz (yR (α := Big) x_x).neg (yR (α := Big) x_x).l))]))
 | _ => none
theorem qj (G : List (Nat × Obj)) (x : Big) (hx : ZP 1000000000 x.l) (ht : zH x.l = x.l) (hl : x.l.length ≤ 100000000) :
 let q1 := (AV.agg 2 fun (i : Nat) => zS.enc x (0 + i)); let q3 := (yR q1); let q2 := (Big.l q3); let q4 := (bif Big.neg q3 then -zv iB q2 else zv iB q2); Zv [AV.agg 2 (zS.enc x)] → bF (yp Big q1) ((∀ (x_1 : Int), List.Mem x_1 q2 → iZ ≤ x_1 ∧ x_1 < iB) ∧ zH q2 = Big.l q3 ∧ lN q2 ≤ 100000000 ∧ zZ (zF (300 : Int) (lZ (zR (Lib.itoa q4)))) (j2 ∧ (True ∧ bA #[] = Yi (Yz (Big.neg x) (Big.l x))) ∧ kI ∧ (4
 : Int) = ZM (Yz (Big.neg x) (Big.l x))) (j2 ∧ (True ∧ Lib.itoa q4 = Yi (Yz (Big.neg x) (Big.l x))) ∧ kI ∧ iZ = ZM (Yz (Big.neg x) (Big.l x)))) := by
 delta bF bA kI j2 lZ lN iZ iB
 dsimp only
 intro hb
 have e0 : (zS.dflt : Int) = 0 := rfl
 simp only [↓yx, ↓ZI, row_one]
 simp only [sS, dS, e0, nB, ot]
 refine ⟨hx, ht, hl, fun h => ?_, fun h => ?_⟩
 all_goals
  have hn := m9 (Yz x.neg x.l)
  unfold Yz at hn
  rw [hn] at h
  unfold Yi ZM Yz
 ·rw [(Zw _ _).2 (show 300 < xa _ by omega)]
  exact ⟨rfl, rfl, rfl⟩
 ·rw [show Nat.blt 300 (xa (bif x.neg then - zv 1000000000 x.l else zv 1000000000 x.l)) = false from Bool.eq_false_iff.2 fun e => by have := (Zw _ _).1 e; omega]
  exact ⟨rfl, rfl, rfl⟩
theorem oA {G : List (Nat × Obj)} (hG : zN G) (x : Big) (hx : ZP 1000000000 x.l) (ht : zH x.l = x.l) (hl : x.l.length ≤ 100000000) : zU Tryz.prog G 103 [xR x] (.tup 2 (zw [.str (Yi (Yz x.neg x.l)), .i (ZM (Yz x.neg x.l))])) :=
 zW (T := ((oQ G).plus 152 UU).plus 95 (Yj fun s => .str (zR s))) (an := .auto) mixed (zz.plus (zz.plus (yO hG) (nW hG)) (zO.mono vf)) (Eq.mp (by kernel_rfl) (qj G x hx ht hl))
theorem tC {G : List (Nat × Obj)} (hG : zN G) : zO Tryz.prog G 103 WO := by
 intro xs ps r h hp
 unfold WO at h
 split at h
 ·skip
  rename_i x_x
  cases h
  obtain ⟨q0, q1, q2, q3, -⟩ := ZH hp
  exact weaken (ys := [xR (yR (α := Big) x_x)]) ⟨Zt q0, trivial⟩ (oA hG (yR (α := Big) x_x) q1 q2 q3)
 ·cases h
def uH (xs : List AV) : Option (List zk × AV) :=
 match SG xs with
 | some r => some r
 | none => Sk xs
theorem QH : zO Tryz.prog [] 148 uH := by
 intro xs ps r h hp
 unfold uH at h
 split at h
 ·rename_i r' h'
  cases h
  exact Lj _ _ _ h' hp
 ·exact LN _ _ _ h hp
noncomputable def gZ : Tb := (T0.plus 148 uH).plus 150 tV
theorem P5 : zz Tryz.prog gZ := zz.plus (zz.plus zo QH) qg
def pB (x y : Big) : Bool := bif x.neg == y.neg then x.neg else bif leB 0 (cmpL x.l y.l) then x.neg else y.neg
def RY (x y : Big) : Int := bif x.neg == y.neg then zv 1000000000 x.l + zv 1000000000 y.l else bif leB 0 (cmpL x.l y.l) then zv 1000000000 x.l - zv 1000000000 y.l else zv 1000000000 y.l - zv 1000000000 x.l
theorem RJ {x y : List Int} (hx : ZP 1000000000 x) (hy : ZP 1000000000 y) (tx : zH x = x) (ty : zH y = y) : (0 ≤ cmpL x y ↔ zv 1000000000 y ≤ zv 1000000000 x) := by
 have e1 : x = zu 1000000000 (zv 1000000000 x).toNat := X5 (b := 1000000000) (by omega) hx tx
 have e2 : y = zu 1000000000 (zv 1000000000 y).toNat := X5 (b := 1000000000) (by omega) hy ty
 have v1 := zd (b := 1000000000) (by omega) hx
 have v2 := zd (b := 1000000000) (by omega) hy
 have c := (OY (b := 1000000000) (by omega) (zv 1000000000 x).toNat (zv 1000000000 y).toNat).1
 rw [← e1, ← e2] at c
 omega
def qE : List AV → Option (List zk × AV)
 | [x_x, x_y] => some ([.b (yp Big x_x), .b (yp Big x_y), .p (ZP 1000000000 (yR (α := Big) x_x).l), .p (ZP 1000000000 (yR (α := Big) x_y).l), .p (zH (yR (α := Big) x_x).l = (yR (α := Big) x_x).l), .p (zH (yR (α := Big) x_y).l = (yR (α := Big) x_y).l), .p ((yR (α := Big) x_x).l.length ≤ 1000000000), .p ((yR (α := Big) x_y).l.length ≤ 1000000000)], .agg 2 (zw [.b (pB (yR (α := Big) x_x) (yR (α := Big) x_y)), ZD (zu 1000000000 (RY (yR (α := Big) x_x) (yR (α := Big) x_y)).toNat)]))
 | _ => none
theorem M8 (x : Big) (y : Big) (hx : ZP 1000000000 x.l) (hy : ZP 1000000000 y.l) (tx : zH x.l = x.l) (ty : zH y.l = y.l) (lx : x.l.length ≤ 1000000000) (ly : y.l.length ≤ 1000000000) :
 let q2 := (xI (Big.l x)); let q1 := (zC Int q2); let q4 := (xI (Big.l y)); let q3 := (zC Int q4); let q6 := (zV q2); let q5 := (∀ (x_1 : Int), List.Mem x_1 q6 → iZ ≤ x_1 ∧ x_1 < iB); let q8 := (zV q4); let q7 := (∀ (x : Int), List.Mem x q8 → iZ ≤ x ∧ x < iB); let q9 := (zu 1000000000 (Int.toNat (RY x y))); let q10 := (zu 1000000000 (Int.toNat (zv
 iB q6 + zv iB q8))); let q11 := (zu 1000000000 (Int.toNat (zv iB q6 - zv iB q8))); let q12 := (zu 1000000000 (Int.toNat (zv iB q8 - zv iB q6))); Zv [AV.agg 2 (zS.enc x), AV.agg 2 (zS.enc y)] → zZ (Big.neg x == Big.neg y) (bF q1 (bF q3 (q5 ∧ q7 ∧ lN q6 ≤ 1000000000 ∧ lN q8 ≤ 1000000000 ∧ 2 = 2 ∧ Big.neg x = pB x y ∧ (false = true → false = true) ∧ 1 = 1 ∧ lN q9 = lN q10 ∧ ∀ (i j : Nat), i < lN q10 → j < 1 → IntKind.i64 =
 .i64 ∧ gD q10 i zS.dflt = gD q9 i zS.dflt))) (bF q1 (bF q3 (q5 ∧ q7 ∧ zZ (leB iZ (cmpL q6 q8)) (bF q1 (bF q3 (q5 ∧ q7 ∧ lN q6 ≤ 1000000000 ∧ lN q8 ≤ 1000000000 ∧ zv iB q8 ≤ zv iB q6 ∧ 2 = 2 ∧ Big.neg x = pB x y ∧ (false = true → false = true) ∧ 1 = 1 ∧ lN q9 = lN q11 ∧ ∀ (i j : Nat), i < lN q11 → j < 1 → kI ∧ gD q11 i zS.dflt = gD q9 i zS.dflt))) (bF q3 (bF q1 (q7 ∧ q5 ∧ lN q8 ≤ 1000000000 ∧
 lN q6 ≤ 1000000000 ∧ zv iB q6 ≤ zv iB q8 ∧ 2 = 2 ∧ Big.neg y = pB x y ∧ (false = true → false = true) ∧ 1 = 1 ∧ lN q9 = lN q12 ∧ ∀ (i j : Nat), i < lN q12 → j < 1 → kI ∧ gD q12 i zS.dflt = gD q9 i zS.dflt)))))) := by
 delta bF xI kI lN gD iZ iB
 dsimp only
 intro hb
 have e0 : (zS.dflt : Int) = 0 := rfl
 simp only [↓yx, ↓ZI, row_one]
 simp only [sS, dS, e0]
 refine zY.2 ⟨fun c => ⟨hx, hy, lx, ly, ?_, fun h => h, ?_, fun i j _ _ => ?_⟩, fun c => ⟨hx, hy, fun h => ⟨hx, hy, lx, ly, (RJ hx hy tx ty).1 h, ?_, fun h => h, ?_, fun i j _ _ => ?_⟩, fun h => ⟨hy, hx, ly, lx, ?_, ?_, fun h => h, ?_, fun i j _ _ => ?_⟩⟩⟩
 any_goals (unfold pB; rw [c]; first | rfl | (rw [show leB 0 (cmpL x.l y.l) = true from (ZX _ _).2 h]; rfl) | (rw [show leB 0 (cmpL x.l y.l) = false from Bool.eq_false_iff.2 fun e => by have := (ZX _ _).1 e; omega]; rfl))
 any_goals (unfold RY; rw [c]; first | rfl | (rw [show leB 0 (cmpL x.l y.l) = true from (ZX _ _).2 h]; rfl) | (rw [show leB 0 (cmpL x.l y.l) = false from Bool.eq_false_iff.2 fun e => by have := (ZX _ _).1 e; omega]; rfl))
 have := RJ hx hy tx ty
 omega
theorem Jv (x : Big) (y : Big) (hx : ZP 1000000000 x.l) (hy : ZP 1000000000 y.l) (tx : zH x.l = x.l) (ty : zH y.l = y.l) (lx : x.l.length ≤ 1000000000) (ly : y.l.length ≤ 1000000000) : zU Tryz.prog [] 100 [xR x, xR y] (.agg 2 (zw [.b (pB x y), ZD (zu 1000000000 (RY x y).toNat)])) :=
 zW (T := gZ) (an := .auto) mixed P5 (Eq.mp (by kernel_rfl) (M8 x y hx hy tx ty lx ly))
theorem jC : zO Tryz.prog [] 100 qE := by
 intro xs ps r h hp
 unfold qE at h
 split at h
 ·skip
  rename_i x_x x_y
  cases h
  obtain ⟨q0, q1, q2, q3, q4, q5, q6, q7, -⟩ := ZH hp
  exact weaken (ys := [xR (yR (α := Big) x_x), xR (yR (α := Big) x_y)]) ⟨Zt q0, Zt q1, trivial⟩ (Jv (yR (α := Big) x_x) (yR (α := Big) x_y) q2 q3 q4 q5 q6 q7)
 ·cases h
theorem On {x y : Big} (hx : ZP 1000000000 x.l) (hy : ZP 1000000000 y.l) (tx : zH x.l = x.l) (ty : zH y.l = y.l) :
  0 ≤ RY x y ∧ (bif pB x y then - RY x y else RY x y) = Yz x.neg x.l + Yz y.neg y.l := by
 have v1 := zd (b := 1000000000) (by omega) hx
 have v2 := zd (b := 1000000000) (by omega) hy
 have c := RJ hx hy tx ty
 unfold pB RY Yz
 cases hl : leB 0 (cmpL x.l y.l) with
 | true =>
  rw [ZX, c] at hl
  cases x.neg <;> cases y.neg <;> simp <;> omega
 | false =>
  have hl : ¬ 0 ≤ cmpL x.l y.l := fun e => by rw [(ZX _ _).2 e] at hl; cases hl
  rw [c] at hl
  cases x.neg <;> cases y.neg <;> simp <;> omega
end Go.Te

namespace Go.Te
open Go Go.Sx Go.Proofs Go.Ar
set_option maxRecDepth 100000
set_option maxHeartbeats 4000000
def Zi : OB → List Int
 | .arr _ _ n els => (List.range n).map fun i => AV.int (els i 0)
 | _ => []
theorem HC (l : List Int) : Zi (OB.arr 3 1 l.length fun i x => AV.v (Value.int IntKind.i64 (l.getD i 0))) = l := by
 have e : ((List.range l.length).map fun i => l.getD i 0) = l := by
  apply List.ext_getElem
  ·simp
  ·intro i h1 h2
   rw [List.getElem_map, List.getElem_range, List.getD_eq_getElem?_getD, List.getElem?_eq_getElem h2]
   rfl
 exact e
def TG  : yq :=
 .two .auto (.two (.one (.loop Nat (fun σ z => [(0, .ns (Yl (σ.tm 0)) 0 z)]) (fun σ z => []) 0 (fun σ z => z ≤ (Zi (σ.bl (Yl (σ.tm 0)))).length ∧ ∀ i, z ≤ i → (Zi (σ.bl (Yl (σ.tm 0)))).getD i 0 = 0) (fun σ z => z) .auto)) .auto)
theorem TD {l : List Int} {z : Nat} (h1 : z ≤ l.length) (h2 : ∀ i, z ≤ i → l.getD i 0 = 0) (c : (zF 0 (z : Int) && l.getD ((z : Int) - 1).toNat 0 == 0) = false) : zH l = l.take z := by
 refine WL h1 h2 ?_
 by_cases hz : z = 0
 ·exact .inl hz
 ·refine .inr fun e => ?_
  rw [(zp _ _).2 (by omega), show ((z : Int) - 1).toNat = z - 1 by omega, e] at c
  cases c
theorem Tn {l : List Int} {z : Nat} (h2 : ∀ i, z ≤ i → l.getD i 0 = 0) (c : (zF 0 (z : Int) && l.getD ((z : Int) - 1).toNat 0 == 0) = true) : 0 < z ∧ ∀ i, z - 1 ≤ i → l.getD i 0 = 0 := by
 rw [Bool.and_eq_true, beq_iff_eq, zp] at c
 have c2 := c.2
 rw [show ((z : Int) - 1).toNat = z - 1 by omega] at c2
 refine ⟨by omega, fun i hi => ?_⟩
 by_cases e : i = z - 1
 ·rw [e]; exact c2
 ·exact h2 i (by omega)
theorem GW {l m : List Int} {z : Nat} (hz : z ≤ m.length) (h : m.take z = l) : zb (AV.xl false 1 z fun i x => AV.v (Value.int IntKind.i64 (m.getD i 0))) (AV.xl false 1 l.length fun i j => AV.v (Value.int IntKind.i64 (l.getD i 0))) := by
 have hl : z = l.length := by rw [← h, List.length_take]; omega
 rw [← hl]
 refine ⟨fun h => h, rfl, rfl, fun i j hi _ => ?_⟩
 rw [← h]
 show zb (AV.v (Value.int IntKind.i64 (m.getD i 0))) (AV.v (Value.int IntKind.i64 ((m.take z).getD i 0)))
 rw [Ye hi]
 exact zT _
noncomputable def gj : Tb := (T0.plus 147 WT).body Tryz.prog [(177, .auto), (147, TG)]
theorem Pg : zz Tryz.prog gj := zz.body mixed (zz.plus zo uU) _
structure YC where
 z : Nat
 q : List Int
 r : Int
def Jg (a : List Int) (d : Int) : yq :=
 .two .auto (.one (.loop YC (fun σ z => [(0, σ.tm 0), (1, σ.tm 1), (3, .i ((z.z : Int) - 1))]) (fun _ z => [(2, Un z.q), (3, .box 3 1 fun _ => .i z.r)]) 0
  (fun _ z => oP 1000000000 d a z.z z.q z.r) (fun _ z => z.z) .auto))
def Jr (a : List Int) (d : Int) : yq :=
 .two .auto (.two .auto (.two .auto (.two (.two .auto (.one (.range (Jg a d) .auto .auto))) .auto)))
def sK : List AV → Option (List zk × AV)
 | [x_a, .v (.int .i64 d)] => some ([.b (zC Int x_a), .p (ZP 1000000000 (zV x_a)), .p (0 < d ∧ d ≤ 1000000000), .p ((zV x_a).length ≤ 1000000000)], .tup 2 (zw [ZD (zu 1000000000 ((zv 1000000000 (zV x_a)).toNat / d.toNat)), ZD (zu 1000000000 ((zv 1000000000 (zV x_a)).toNat % d.toNat))]))
 | _ => none
theorem NH (a : List Int) (d : Int) (ha : ZP 1000000000 a) (hd : 0 < d ∧ d ≤ 1000000000) (hl : a.length ≤ 1000000000) :
 let q1 := ((3 = 3 ∧ 1 = 1 ∧ kI ∧ d = d) ∧ 141 = 141 ∧ 1 = 1 ∧ nat_lit 2 = 2 ∧ 0 = 0 ∧ Int.toNat (lZ a) = Int.toNat (lZ a)); let q2 := (xI a); let q13 := (zu 1000000000 (Int.toNat (zv iB a) / Int.toNat d)); let q12 := (xI q13); let q17 := (zu 1000000000 (Int.toNat (zv iB a) % Int.toNat d)); let q16 := (AV.xl false 1 (lN q17) fun
 i j => aI (gD q17 i zS.dflt)); Zv [xI a, aI d] → bF (DB.db (iZ ≤ (lZ a) ∧ (lZ a) ≤ (lZ a) ∧ (↑8 : Int) * (lZ a) ≤ (140737488355328 : Int))) (bF (dK ((lZ a) - iO)) ((∃ (z : YC), (oP iB d a (YC.z z) (YC.q z) (YC.r z) ∧ nat_lit 5 = 5 ∧ (nat_lit 4 = 4 ∧ 0 = 0) ∧ kI ∧ (lZ a) - iO =
 (cI (YC.z z)) - iO) ∧ (((q1 ∧ (3 : TypeId) = 3 ∧ 1 = 1 ∧ lN (YC.q z) = Int.toNat (lZ a) ∧ ∀ (i j : Nat), i < Int.toNat (lZ a) → j < 1 → zb (Z3 (Value.int .i64 iZ) j) (aI (gD (YC.q z) i iZ))) ∧ (3 : TypeId) = 3 ∧ 1 = 1 ∧ kI ∧ iZ = YC.r z) ∧ 141 = 141 ∧ 1 = 1 ∧ zb q2 q2) ∧ lR) ∧ ∀ (z : YC), let q3 := (gD a (Int.toNat ((cI (YC.z z)) - iO)) zS.dflt + YC.r z * iB); let q4 := (Int.tdiv
 q3 d); let q6 := (bF (dK ((cI (YC.z z)) - iO - iO)) (∃ (z' : YC), ((oP iB d a (YC.z z') (YC.q z') (YC.r z') ∧ YC.z z' < YC.z z) ∧ nat_lit 5 = 5 ∧ (nat_lit 4 = 4 ∧ 0 = 0) ∧ kI ∧ (cI (YC.z z)) - iO - iO = (cI (YC.z z')) - iO) ∧ (((q1 ∧ 3 = 3 ∧ 1 = 1 ∧ lN (YC.q z') = lN (YC.q z) ∧ ∀ (i j : Nat), i < lN (YC.q z) → j < 1 → zb (if i = 0 + Int.toNat ((cI (YC.z z)) - iO) ∧ 0 ≤ j ∧ j < 1 then aI q4 else aI (List.getD
 (YC.q z) i iZ)) (aI (gD (YC.q z') i iZ))) ∧ 3 = 3 ∧ 1 = 1 ∧ kI ∧ Int.tmod q3 d = YC.r z') ∧ 141 = 141 ∧ 1 = 1 ∧ zb q2 q2) ∧ lR)); let q5 := ((bF (DB.db (d ≠ iZ)) q6 ∧ bF (DB.db (d ≠ iZ)) q6) ∧ bF (DB.db (d ≠ iZ)) q6); let q9 := (Zi (OB.arr (3 : TypeId) 1 (lN (YC.q z)) fun (i x : Nat) => aI (gD (YC.q z) i iZ))); let q10 := (((q1 ∧ 3 = 3 ∧ 1 = 1 ∧ lN (YC.q z) =
 lN (YC.q z) ∧ ∀ (i j : Nat), i < lN (YC.q z) → j < 1 → kI ∧ gD (YC.q z) i iZ = gD (YC.q z) i iZ) ∧ 3 = 3 ∧ 1 = 1 ∧ kI ∧ YC.r z = YC.r z) ∧ 141 = 141 ∧ 1 = 1 ∧ zb q2 q2); let q8 := (∃ (z_1 : Nat), ((z_1 ≤ lN q9 ∧ ∀ (i : Nat), z_1 ≤ i → gD (Zi (OB.arr (3 : TypeId) 1 (lN (YC.q z)) fun (i x : Nat) => aI (gD (YC.q z) i iZ))) i iZ = iZ) ∧ nat_lit 2 = 2 ∧ 0 = 0 ∧ z_1 = Int.toNat (lZ a)) ∧ q10 ∧ True); let q15 := (zH
 (zV (AV.xl true 1 1 (Sx.rowAt [fun (x : Nat) => aI (YC.r z)])))); let q14 := (xI q15); let q7 := (q8 ∧ ∀ (z_1 : Nat), let q11 := (!zr true (zF iZ (cI z_1)) || zr true (zF iZ (cI z_1))); (z_1 ≤ lN q9 ∧ ∀ (i : Nat), z_1 ≤ i → gD (Zi (OB.arr (3 : TypeId) 1 (lN (YC.q z)) fun (i x : Nat) => aI (gD (YC.q z) i iZ))) i iZ = iZ) → bF q11 (bF q11 (bF (!zr true (zF iZ
 (cI z_1)) || dK ((cI z_1) - iO)) (bF q11 (bF q11 (bF (!zr true (zF iZ (cI z_1)) || DB.db (iZ ≤ (cI z_1) - iO ∧ (cI z_1) - iO < (cI z_1))) (bF q11 (bF q11 (bF (!zF iZ (cI z_1) || zr true (zF iZ (cI z_1))) (zZ (bif zF iZ (cI z_1) then gD (YC.q z) (0 + Int.toNat ((cI z_1) - iO)) iZ == iZ else false) (bF (dK ((cI z_1) - iO)) (bF (DB.db (iZ ≤ (cI z_1) - iO ∧ (cI z_1) - (1 :
 Int) ≤ (cI z_1))) (∃ (z' : Nat), (((z' ≤ lN q9 ∧ ∀ (i : Nat), z' ≤ i → gD (Zi (OB.arr (3 : TypeId) 1 (lN (YC.q z)) fun (i x : Nat) => aI (gD (YC.q z) i iZ))) i iZ = iZ) ∧ z' < z_1) ∧ nat_lit 2 = 2 ∧ 0 = 0 ∧ z' = Int.toNat ((cI z_1) - iO)) ∧ q10 ∧ True))) (j2 ∧ (True ∧ zb (AV.xl false 1 z_1 fun i j => aI (gD (YC.q z) (0 + i) iZ)) q12) ∧ zb q14 q16))))))))))); oP
 iB d a (YC.z z) (YC.q z) (YC.r z) → zZ (leB iZ ((cI (YC.z z)) - iO)) (bF (DB.db (iZ ≤ (cI (YC.z z)) - iO ∧ (cI (YC.z z)) - iO < (lZ a))) (bF (dK (YC.r z * iB)) (zZ (dK q3) (bF (DB.db (d ≠ iZ)) (bF (dK q4) (bF (DB.db (iZ ≤ (cI (YC.z z)) - iO ∧ (cI (YC.z z)) - iO < (cI (Int.toNat (lZ a))))) (q5 ∧ q5 ∧ bF (DB.db (d ≠ iZ)) q6))))
 False))) (q7 ∧ q7 ∧ q8 ∧ ∀ (z_1 : Nat), let q18 := (!zr true (zF iZ (cI z_1)) || zr true (zF iZ (cI z_1))); (z_1 ≤ lN q9 ∧ ∀ (i : Nat), z_1 ≤ i → gD (Zi (OB.arr (3 : TypeId) 1 (lN (YC.q z)) fun (i x : Nat) => aI (gD (YC.q z) i iZ))) i iZ = iZ) → bF q18 (bF q18 (bF (!zr true (zF iZ (cI z_1)) || dK ((cI z_1) - iO)) (bF q18 (bF q18 (bF (!zr true (zF iZ (cI z_1)) || DB.db (iZ ≤ (cI z_1) - (1 :
 Int) ∧ (cI z_1) - iO < (cI z_1))) (bF q18 (bF q18 (bF (!zF iZ (cI z_1) || zr true (zF iZ (cI z_1))) (zZ (bif zF iZ (cI z_1) then gD (YC.q z) (0 + Int.toNat ((cI z_1) - iO)) iZ == iZ else false) (bF (dK ((cI z_1) - iO)) (bF (DB.db (iZ ≤ (cI z_1) - iO ∧ (cI z_1) - iO ≤ (cI z_1))) (∃ (z' : Nat), (((z' ≤ lN q9 ∧ ∀ (i : Nat), z' ≤ i → gD (Zi (OB.arr (3 : TypeId) 1 (lN (YC.q z)) fun (i x : Nat) => AV.v
 (Value.int .i64 (gD (YC.q z) i iZ)))) i iZ = iZ) ∧ z' < z_1) ∧ nat_lit 2 = 2 ∧ 0 = 0 ∧ z' = Int.toNat ((cI z_1) - iO)) ∧ q10 ∧ True))) (j2 ∧ (True ∧ zb (AV.xl false 1 z_1 fun i j => aI (gD (YC.q z) (0 + i) iZ)) q12) ∧ zb q14 q16))))))))))))) := by
 delta bF dK xI lR cI kI j2 lZ lN gD iZ iO iB aI
 dsimp only
 intro hb
 have e0 : (zS.dflt : Int) = 0 := rfl
 simp only [↓yx, ↓ZI, row_one]
 simp only [sS, dS, e0]
 simp only [and_self, HC, implies_true, and_true]
 obtain ⟨d0, d1⟩ := hd
 have va := zd (b := 1000000000) (by omega) ha
 refine ⟨⟨by omega, by omega, by omega⟩, ⟨by omega, by omega⟩, ⟨⟨a.length, List.replicate a.length 0, 0⟩, ⟨.start (by omega) d0 a, rfl⟩, ⟨by simp, fun i j _ hj => vB _ i j hj⟩, rfl⟩, fun z z1 => ⟨fun hz => ?_, fun hz => ?_⟩⟩
 ·have zle := z1.le
  have zl := z1.len
  have R0 := z1.r0
  have R1 := z1.r1
  have hzk : z.z - 1 + 1 = z.z := by omega
  obtain ⟨⟨n0, n1⟩, hs⟩ := (hzk.symm ▸ z1 : oP 1000000000 d a (z.z - 1 + 1) z.q z.r).step (by omega) ha
  have ek : ((z.z : Int) - 1).toNat = z.z - 1 := by omega
  rw [ek]
  have xk := ha.get (by omega) (z.z - 1)
  have q1 := hs.in_.get (by omega) (z.z - 1)
  rw [YN _ _ _ _ (by omega), if_pos rfl] at q1
  generalize a.getD (z.z - 1) 0 + z.r * 1000000000 = N at *
  exact ⟨⟨by omega, by omega⟩, ⟨by omega, by omega⟩, ⟨by omega, by omega⟩, by omega, ⟨by omega, by omega⟩, ⟨by omega, by omega⟩, by omega, ⟨by omega, by omega⟩, ⟨z.z - 1, _, _⟩, ⟨⟨hs, by simp only; omega⟩, by simp only; omega⟩, ⟨by simp, fun i j _ => sL _ _ _ (by omega) i j⟩, rfl⟩
 ·have zl := z1.len
  have hz0 : z.z = 0 := by have := z1.le; omega
  obtain ⟨D, rfl⟩ : ∃ D : Nat, d = D := ⟨d.toNat, by omega⟩
  obtain ⟨X, hX⟩ : ∃ X : Nat, zv 1000000000 a = X := ⟨(zv 1000000000 a).toNat, by omega⟩
  obtain ⟨t1, _, t3⟩ := (hz0 ▸ z1 : oP 1000000000 D a 0 z.q z.r).end_ (b := 1000000000) (by omega) (by omega) (by omega) X hX
  rw [hX]
  simp only [Int.toNat_natCast]
  refine ⟨⟨a.length, ⟨by omega, fun i hi => WF (by omega)⟩, rfl⟩, fun k ⟨k1, k2⟩ => ⟨fun h => ?_, fun h => ?_, zY.2 ⟨fun c => ?_, fun c => ?_⟩⟩⟩
  ·have := (zp _ _).1 h; exact ⟨by omega, by omega⟩
  ·have := (zp _ _).1 h; exact ⟨by omega, by omega⟩
  ·obtain ⟨c1, c2⟩ := Tn k2 c
   exact ⟨⟨by omega, by omega⟩, ⟨by omega, by omega⟩, k - 1, ⟨⟨by omega, c2⟩, by omega⟩, by omega⟩
  ·have ht := TD k1 k2 c
   refine ⟨rfl, GW k1 (ht.symm.trans t1), ?_⟩
   have er : zV (AV.xl true 1 1 fun x j => AV.v (Value.int IntKind.i64 z.r)) = [z.r] := rfl
   rw [er, show zH [z.r] = zu 1000000000 (X % D) from t3]
   exact zT _
theorem kx (a : List Int) (d : Int) (ha : ZP 1000000000 a) (hd : 0 < d ∧ d ≤ 1000000000) (hl : a.length ≤ 1000000000) : zU Tryz.prog [] 176 [ZD a, .i d] (.tup 2 (zw [ZD (zu 1000000000 ((zv 1000000000 a).toNat / d.toNat)), ZD (zu 1000000000 ((zv 1000000000 a).toNat % d.toNat))])) :=
 zW (T := gj) (an := Jr a d) mixed Pg (Eq.mp (by kernel_rfl) (NH a d ha hd hl))
theorem LX : zO Tryz.prog [] 176 sK := by
 intro xs ps r h hp
 unfold sK at h
 split at h
 ·skip
  rename_i x_a d
  cases h
  obtain ⟨q0, q1, q2, q3, -⟩ := ZH hp
  exact weaken (ys := [ZD (zV x_a), .i d]) ⟨zg q0, zT _, trivial⟩ (kx (zV x_a) d q1 q2 q3)
 ·cases h
def VR (b u2 v1 v2 : Int) : Nat → Int → Int → Int
 | 0, q, _ => q
 | n + 1, q, r => bif leB b q || (zF r b && zF (r * b + u2) (q * v2)) then (bif leB b (r + v1) then q - 1 else VR b u2 v1 v2 n (q - 1) (r + v1)) else q
def W7 (b : Int) (u v : List Int) (j : Nat) : Int :=
 VR b (u.getD (j + v.length - 2) 0) (v.getD (v.length - 1) 0) (v.getD (v.length - 2) 0) ((u.getD (j + v.length) 0 * b + u.getD (j + v.length - 1) 0).tdiv (v.getD (v.length - 1) 0)).toNat
  ((u.getD (j + v.length) 0 * b + u.getD (j + v.length - 1) 0).tdiv (v.getD (v.length - 1) 0)) ((u.getD (j + v.length) 0 * b + u.getD (j + v.length - 1) 0).tmod (v.getD (v.length - 1) 0))
structure xm where
 q : Int
 r : Int
def ky (u v : List Int) (j : Int) : yq :=
 .two .auto (.two .auto (.two .auto (.two .auto (.two (.one (.loop xm (fun σ z => [(0, σ.tm 0), (1, σ.tm 1), (2, σ.tm 2), (7, σ.tm 7), (9, .i z.q), (10, .i z.r)]) (fun σ z => []) 0 (fun σ z => 0 ≤ z.q ∧ z.q ≤ 2000000000 ∧ 0 ≤ z.r ∧ z.r < 1000000000 ∧ VR 1000000000 (u.getD (j.toNat + v.length - 2) 0) (v.getD (v.length - 1) 0) (v.getD (v.length - 2) 0) z.q.toNat z.q z.r = W7 1000000000 u v j.toNat) (fun σ z => z.q.toNat) .auto)) .auto))))
def qW : List AV → Option (List zk × AV)
 | [x_u, x_v, .v (.int .i64 j)] => some ([.b (zC Int x_u), .b (zC Int x_v), .p (ZP 1000000000 (zV x_u)), .p (ZP 1000000000 (zV x_v)), .p (2 ≤ (zV x_v).length), .p ((zV x_v).length ≤ 1000000000), .p (0 ≤ j ∧ j + (zV x_v).length < (zV x_u).length), .p (0 < (zV x_v).getD ((zV x_v).length - 1) 0), .p ((zV x_u).getD (j.toNat + (zV x_v).length) 0 ≤ (zV x_v).getD ((zV x_v).length - 1) 0)], .i (W7 1000000000 (zV x_u) (zV x_v) j.toNat))
 | _ => none
theorem lI (u : List Int) (v : List Int) (j : Int) (hu : ZP 1000000000 u) (hv : ZP 1000000000 v) (hn : 2 ≤ v.length) (hl : v.length ≤ 1000000000) (hj : 0 ≤ j ∧ j + v.length < u.length) (h1 : 0 < v.getD (v.length - 1) 0) (hc : u.getD (j.toNat + v.length) 0 ≤ v.getD (v.length - 1) 0) :
 let q2 := (ZA .i64 (j + (lZ v))); let q1 := (DB.db q2); let q3 := (Int.toNat (j + (lZ v))); let q4 := (j + (lZ v) - iO); let q5 := (gD u q3 zS.dflt * iB + gD u (Int.toNat q4) zS.dflt); let q6 := (dK ((lZ v) - iO)); let q7 := (DB.db (iZ ≤ (lZ v) - iO ∧ (lZ v) - iO < (lZ v))); let q9 := (Int.toNat ((lZ v) - iO)); let q8 := (DB.db (gD v q9 zS.dflt ≠ (0 :
 Int))); let q10 := (gD v q9 zS.dflt); let q11 := (gD u (Int.toNat j + lN v - 2) iZ); let q12 := (gD v (lN v - 1) iZ); let q13 := (gD v (lN v - 2) iZ); let q14 := (xI u); let q15 := (xI v); let q16 := (kI ∧ (lZ v) = (lZ v)); let q21 := (j + (lZ v) - (2 : Int)); Zv [AV.xl false 1
 (lN u) fun i j => aI (gD u i zS.dflt), xI v, aI j] → bF q1 (bF (DB.db (iZ ≤ j + (lZ v) ∧ j + (lZ v) < (lZ u))) (bF (dK (gD u q3 zS.dflt * iB)) (bF q1 (bF (dK q4) (bF (DB.db (iZ ≤ j + (lZ v) - iO ∧ j + (lZ v) - iO < (lZ u))) (bF (DB.db (ZA .i64
 q5)) (bF q6 (bF q7 (bF q8 (bF (dK (Int.tdiv q5 q10)) (bF q6 (bF q7 (bF q8 ((∃ (z : xm), ((iZ ≤ xm.q z ∧ xm.q z ≤ (2000000000 : Int) ∧ iZ ≤ xm.r z ∧ xm.r z < iB ∧ VR iB q11 q12 q13 (Int.toNat (xm.q z)) (xm.q z) (xm.r z) = W7 iB u v (Int.toNat j)) ∧ zb q14 q14 ∧ zb q15 q15 ∧ (kI ∧ j = j) ∧ q16 ∧ (kI ∧ Int.tdiv q5 q10 = xm.q z) ∧ kI ∧ Int.tmod q5 q10 = xm.r z) ∧ True) ∧ ∀ (z : xm), let q17 := (!zr false (leB iB
 (xm.q z)) || zr false (leB iB (xm.q z))); let q19 := (zr false (leB iB (xm.q z)) && zr true (zF (xm.r z) iB)); let q18 := (!q19 || zr false (leB iB (xm.q z)) && zr true (zF (xm.r z) iB)); let q20 := (xm.q z * gD v (Int.toNat ((lZ v) - (2 : Int))) zS.dflt); let q22 := (xm.r z * iB + gD u (Int.toNat q21) zS.dflt); let q23 := (xm.r z + gD v q9 zS.dflt); iZ ≤ xm.q z ∧ xm.q z ≤ (2000000000 : Int) ∧ iZ ≤ xm.r z ∧ xm.r z <
 iB ∧ VR iB q11 q12 q13 (Int.toNat (xm.q z)) (xm.q z) (xm.r z) = W7 iB u v (Int.toNat j) → bF q17 (zZ q17 (bF q18 (bF (!q19 || dK ((lZ v) - (2 : Int))) (bF q18 (bF q18 (bF (!q19 || DB.db (iZ ≤ (lZ v) - (2 : Int) ∧ (lZ v) - (2 : Int) < (lZ v))) (bF q18 (bF q18 (bF q18 (bF (!q19 || dK q20) (bF q18 (bF (!q19 || dK (xm.r z * iB)) (bF q18 (zZ q18
 (bF (!q19 || DB.db q2) (bF q18 (bF (!q19 || dK q21) (bF q18 (bF q18 (bF (!q19 || DB.db (iZ ≤ j + (lZ v) - (2 : Int) ∧ j + (lZ v) - (2 : Int) < (lZ u))) (bF q18 (bF q18 (bF q18 (bF (!q19 || dK q22) (bF q18 (bF q18 (bF q17 (bF (!zr false (leB iB (xm.q z)) || (!zF (xm.r z) iB || zr false (leB iB (xm.q z)) && zr true (zF (xm.r z) iB))) (bF (!!leB iB (xm.q z) ||
 zr false (leB iB (xm.q z))) (zZ (bif leB iB (xm.q z) then true else bif zF (xm.r z) iB then zF q22 q20 else false) (bF (dK (xm.q z - iO)) (bF q6 (bF q7 (bF (dK q23) (zZ (leB iB q23) (kI ∧ xm.q z - iO = W7 iB u v (Int.toNat j)) (∃ (z' : xm), (((iZ ≤ xm.q z' ∧ xm.q z' ≤ (2000000000 : Int) ∧ iZ ≤ xm.r z' ∧ xm.r z' < iB ∧ VR iB q11 q12 q13 (Int.toNat (xm.q z')) (xm.q z')
 (xm.r z') = W7 iB u v (Int.toNat j)) ∧ Int.toNat (xm.q z') < Int.toNat (xm.q z)) ∧ zb q14 q14 ∧ zb q15 q15 ∧ (kI ∧ j = j) ∧ q16 ∧ (kI ∧ xm.q z - iO = xm.q z') ∧ kI ∧ xm.r z + gD v q9 zS.dflt = xm.r z') ∧ True)))))) (kI ∧ xm.q z = W7 iB u v (Int.toNat j)))))))))))))))))) False)))))))))))))
 False))))))))))))))) := by
 delta bF dK xI kI lZ lN gD iZ iO iB aI
 dsimp only
 intro hb
 have e0 : (zS.dflt : Int) = 0 := rfl
 simp only [↓yx, ↓ZI, row_one]
 simp only [sS, dS, e0]
 have hu1 : u.length ≤ 9223372036854775807 := hb.1.1
 have en : ((v.length : Int) - 1).toNat = v.length - 1 := by omega
 have en2 : ((v.length : Int) - 2).toNat = v.length - 2 := by omega
 have ej : (j + (v.length : Int)).toNat = j.toNat + v.length := by omega
 have ej1 : (j + (v.length : Int) - 1).toNat = j.toNat + v.length - 1 := by omega
 have ej2 : (j + (v.length : Int) - 2).toNat = j.toNat + v.length - 2 := by omega
 rw [en, en2, ej, ej1, ej2]
 have hF : W7 1000000000 u v j.toNat = VR 1000000000 (u.getD (j.toNat + v.length - 2) 0) (v.getD (v.length - 1) 0) (v.getD (v.length - 2) 0) ((u.getD (j.toNat + v.length) 0 * 1000000000 + u.getD (j.toNat + v.length - 1) 0).tdiv (v.getD (v.length - 1) 0)).toNat
  ((u.getD (j.toNat + v.length) 0 * 1000000000 + u.getD (j.toNat + v.length - 1) 0).tdiv (v.getD (v.length - 1) 0)) ((u.getD (j.toNat + v.length) 0 * 1000000000 + u.getD (j.toNat + v.length - 1) 0).tmod (v.getD (v.length - 1) 0)) := rfl
 rw [hF]
 have u0 := hu.get (by omega) (j.toNat + v.length)
 have u1 := hu.get (by omega) (j.toNat + v.length - 1)
 have u2 := hu.get (by omega) (j.toNat + v.length - 2)
 have w1 := hv.get (by omega) (v.length - 1)
 have w2 := hv.get (by omega) (v.length - 2)
 clear hF
 generalize u.getD (j.toNat + v.length) 0 = a0 at *
 generalize u.getD (j.toNat + v.length - 1) 0 = a1 at *
 generalize u.getD (j.toNat + v.length - 2) 0 = a2 at *
 generalize v.getD (v.length - 1) 0 = b1 at *
 generalize v.getD (v.length - 2) 0 = b2 at *
 obtain ⟨e, m0, m1, q0⟩ := KG (n := a0 * 1000000000 + a1) (b := b1) (by omega) h1
 have qle : (a0 * 1000000000 + a1).tdiv b1 ≤ 2000000000 := by
  refine Decidable.byContradiction fun hn => ?_
  have t1 : b1 * 2000000001 ≤ b1 * (a0 * 1000000000 + a1).tdiv b1 := Int.mul_le_mul_of_nonneg_left (by omega) (by omega)
  omega
 generalize (a0 * 1000000000 + a1).tdiv b1 = q at *
 generalize (a0 * 1000000000 + a1).tmod b1 = r at *
 obtain ⟨E, hE⟩ : ∃ E, VR 1000000000 a2 b1 b2 q.toNat q r = E := ⟨_, rfl⟩
 rw [hE]
 refine ⟨⟨by omega, by omega⟩, ⟨by omega, by omega⟩, ⟨by omega, by omega⟩, ⟨by omega, by omega⟩, ⟨by omega, by omega⟩, ⟨by omega, by omega⟩, ⟨by omega, by omega⟩, ⟨by omega, by omega⟩, ⟨by omega, by omega⟩, by omega, ⟨by omega, by omega⟩, ⟨by omega, by omega⟩, ⟨by omega, by omega⟩, by omega, ⟨⟨q, r⟩, ⟨q0, qle, m0, by simp only; omega, hE⟩, rfl, rfl⟩, fun ⟨Q, R⟩ ⟨z1, z2, z3, z4, z5⟩ => ?_⟩
 simp only at z1 z2 z3 z4 z5 ⊢
 have p0 : 0 ≤ Q * b2 := Int.mul_nonneg z1 w2.1
 have p1 : Q * b2 ≤ Q * 1000000000 := Int.mul_le_mul_of_nonneg_left (by omega) z1
 refine ⟨fun _ => ⟨by omega, by omega⟩, fun _ => ⟨by omega, by omega⟩, fun _ => ⟨by omega, by omega⟩, fun _ => ⟨by omega, by omega⟩, fun _ => ⟨by omega, by omega⟩, fun _ => ⟨by omega, by omega⟩, fun _ => ⟨by omega, by omega⟩, fun _ => ⟨by omega, by omega⟩, ?_⟩
 refine Uz (by cases leB 1000000000 Q <;> cases zF R 1000000000 <;> rfl) ?_
 refine zY.2 ⟨fun c => ?_, fun c => ?_⟩
 ·have hQ : 0 < Q := by
   rw [Bool.or_eq_true, ZX, Bool.and_eq_true, zp, zp] at c
   rcases c with c | c
   ·omega
   ·refine Decidable.byContradiction fun hn => ?_
    have : Q = 0 := by omega
    rw [this, Int.zero_mul] at c
    omega
  obtain ⟨n, hn⟩ : ∃ n : Nat, Q.toNat = n + 1 := ⟨Q.toNat - 1, by omega⟩
  rw [hn] at z5 ⊢
  unfold VR at z5
  rw [c, cond_true] at z5
  have hn2 : (Q - 1).toNat = n := by omega
  refine ⟨⟨by omega, by omega⟩, ⟨by omega, by omega⟩, ⟨by omega, by omega⟩, ⟨by omega, by omega⟩, fun h => ?_, fun h => ⟨⟨Q - 1, R + b1⟩, ⟨⟨by simp only; omega, by simp only; omega, by simp only; omega, h, ?_⟩, by simp only; omega⟩, rfl, rfl⟩⟩
  ·rw [(ZX _ _).2 h] at z5; exact z5
  ·rw [show leB 1000000000 (R + b1) = false from Bool.eq_false_iff.2 fun e => by have := (ZX _ _).1 e; omega] at z5
   rw [← z5]
   simp only [hn2, cond_false]
 ·rw [← z5]
  cases hQ : Q.toNat with
  | zero => rfl
  | succ n => unfold VR; rw [c]; rfl
theorem JV (u : List Int) (v : List Int) (j : Int) (hu : ZP 1000000000 u) (hv : ZP 1000000000 v) (hn : 2 ≤ v.length) (hl : v.length ≤ 1000000000) (hj : 0 ≤ j ∧ j + v.length < u.length) (h1 : 0 < v.getD (v.length - 1) 0) (hc : u.getD (j.toNat + v.length) 0 ≤ v.getD (v.length - 1) 0) : zU Tryz.prog [] 178 [ZD u, ZD v, .i j] (.i (W7 1000000000 u v j.toNat)) :=
 zW (T := T0) (an := ky u v j) mixed zo (Eq.mp (by kernel_rfl) (lI u v j hu hv hn hl hj h1 hc))
theorem K6 : zO Tryz.prog [] 178 qW := by
 intro xs ps r h hp
 unfold qW at h
 split at h
 ·skip
  rename_i x_u x_v j
  cases h
  obtain ⟨q0, q1, q2, q3, q4, q5, q6, q7, q8, -⟩ := ZH hp
  exact weaken (ys := [ZD (zV x_u), ZD (zV x_v), .i j]) ⟨zg q0, zg q1, zT _, trivial⟩ (JV (zV x_u) (zV x_v) j q2 q3 q4 q5 q6 q7 q8)
 ·cases h
noncomputable def gK : Tb := (T0.plus 155 Vz).body Tryz.prog [(147, TG)]
theorem Pi : zz Tryz.prog gK := zz.body mixed (zz.plus zo sO) _
def We (x y : List Int) : List Int := zu 1000000000 (zv 1000000000 x * zv 1000000000 y).toNat
theorem Nj (x y : List Int) (hx : ZP 1000000000 x) (hy : ZP 1000000000 y) (hlx : x.length ≤ 1000000000) (hly : y.length ≤ 1000000000) :
 let q1 := ((lZ x) + (lZ y) + iO); let q2 := (xI y); let q3 := (nat_lit 0 = 0 ∧ 0 = 0 ∧ Int.toNat q1 = Int.toNat q1); let q4 := (xI x); let q5 := (kI ∧ (lZ x) = (lZ x)); let q9 := (kI ∧ (lZ y) + iO = (lZ y) + iO); let q13 := (zV q2); Zv [AV.xl false 1 (lN x)
 fun i j => aI (gD x i zS.dflt), xI y] → bF (dK ((lZ x) + (lZ y))) (bF (dK q1) (bF (DB.db (iZ ≤ (lZ x) + (lZ y) + iO ∧ (lZ x) + (lZ y) + iO ≤ (lZ x) + (lZ y) + iO ∧ (↑8 : Int) * q1 ≤ (140737488355328 : Int))) ((∃ (z : yW), ((Ww iB x y (yW.i z) (yW.out z) ∧
 yW.i z ≤ lN x) ∧ zb q2 q2 ∧ q3 ∧ zb q4 q4 ∧ q5 ∧ kI ∧ iZ = (cI (yW.i z))) ∧ (3 : TypeId) = 3 ∧ 1 = 1 ∧ lN (yW.out z) = Int.toNat q1 ∧ ∀ (i j : Nat), i < Int.toNat q1 → j < 1 → zb (Z3 (Value.int .i64 iZ) j) (aI (gD (yW.out z) i iZ))) ∧ ∀ (z : yW), let q6 := (Int.toNat (AV.int (aI (cI (yW.i z))))); let q7 := (kI ∧ (cI (yW.i z)) = (cI (yW.i z))); let q8 := (kI ∧ gD x (Int.toNat (cI (yW.i z))) zS.dflt = gD x (Int.toNat
 (cI (yW.i z))) zS.dflt); let q16 := (Zi (OB.arr (3 : TypeId) 1 (lN (yW.out z)) fun (i x : Nat) => aI (gD (yW.out z) i iZ))); Ww iB x y (yW.i z) (yW.out z) ∧ yW.i z ≤ lN x → zZ (zF (cI (yW.i z)) (lZ x)) (bF (DB.db (iZ ≤ (cI (yW.i z)) ∧ (cI (yW.i z)) < (lZ x))) (bF (dK ((lZ y) + iO)) ((∃ (z_1 : yX), ((MulK iB x y q6 (yX.k z_1) (yX.out z_1) (yX.c z_1) ∧ yX.k z_1 ≤ lN y + 1 ∧
 (yX.k z_1 = lN y + 1 → yX.c z_1 = iZ)) ∧ zb q2 q2 ∧ q3 ∧ q7 ∧ q8 ∧ zb q4 q4 ∧ q5 ∧ q7 ∧ q9 ∧ (kI ∧ iZ = yX.c z_1) ∧ kI ∧ iZ = (cI (yX.k z_1))) ∧ 3 = 3 ∧ 1 = 1 ∧ lN (yX.out z_1) = lN (yW.out z) ∧ ∀ (i j : Nat), i < lN (yW.out z) → j < 1 → kI ∧ gD (yW.out z) i iZ = gD (yX.out z_1) i iZ) ∧ ∀ (z_1 : yX), let q11 := ((cI (yW.i z)) + (cI (yX.k z_1))); let q10 := (dK q11); let q12 := (DB.db (iZ ≤ (cI (yW.i z)) +
 (cI (yX.k z_1)) ∧ (cI (yW.i z)) + (cI (yX.k z_1)) < (cI (Int.toNat q1)))); let q14 := (0 + Int.toNat q11); let q15 := (gD (yX.out z_1) q14 iZ + gD x (Int.toNat (cI (yW.i z))) zS.dflt * gD q13 (Int.toNat (cI (yX.k z_1))) iZ + yX.c z_1); MulK iB x y q6 (yX.k z_1) (yX.out z_1) (yX.c z_1) ∧ yX.k z_1 ≤ lN y + 1 ∧ (yX.k z_1 = lN y + 1 → yX.c z_1 = iZ) → zZ (zF (cI (yX.k z_1)) ((lZ y) + iO)) (bF q10 (bF q12 (bF (zC Int q2) (iZ ≤
 (cI (yX.k z_1)) ∧ bF (dK (gD x (Int.toNat (cI (yW.i z))) zS.dflt * gD q13 (Int.toNat (cI (yX.k z_1))) iZ)) (bF (dK (gD (yX.out z_1) q14 iZ + gD x (Int.toNat (cI (yW.i z))) zS.dflt * gD q13 (Int.toNat (cI (yX.k z_1))) iZ)) (bF (dK q15) (bF q10 (bF (dK (Int.tdiv q15 iB)) (bF q12 (bF (dK ((cI (yX.k z_1)) + iO)) (∃ (z' : yX), (((MulK iB x y q6 (yX.k z') (yX.out z') (yX.c
 z') ∧ yX.k z' ≤ lN y + 1 ∧ (yX.k z' = lN y + 1 → yX.c z' = iZ)) ∧ lN y + 1 - yX.k z' < lN y + 1 - yX.k z_1) ∧ zb q2 q2 ∧ q3 ∧ q7 ∧ q8 ∧ zb q4 q4 ∧ q5 ∧ q7 ∧ q9 ∧ (kI ∧ Int.tdiv q15 iB = yX.c z') ∧ kI ∧ (cI (yX.k z_1)) + iO = (cI (yX.k z'))) ∧ 3 = 3 ∧ 1 = 1 ∧ lN (yX.out z') = lN (yX.out z_1) ∧ ∀ (i j : Nat), i < lN (yX.out z_1) → j < 1 → zb (if i = 0 + Int.toNat q11 ∧ 0 ≤ j ∧ j < 1 then aI (Int.tmod q15 iB) else AV.v
 (Value.int .i64 (gD (yX.out z_1) i iZ))) (aI (gD (yX.out z') i iZ))))))))))))) (bF (dK ((cI (yW.i z)) + iO)) (∃ (z' : yW), (((Ww iB x y (yW.i z') (yW.out z') ∧ yW.i z' ≤ lN x) ∧ lN x - yW.i z' < lN x - yW.i z) ∧ zb q2 q2 ∧ q3 ∧ zb q4 q4 ∧ q5 ∧ kI ∧ (cI (yW.i z)) + iO = (cI (yW.i z'))) ∧ 3 = 3 ∧ 1 = 1 ∧ lN (yW.out z') = lN (yX.out z_1) ∧ ∀ (i j : Nat), i
 < lN (yX.out z_1) → j < 1 → kI ∧ gD (yX.out z_1) i iZ = gD (yW.out z') i iZ))))) ((∃ (z_1 : Nat), ((z_1 ≤ lN q16 ∧ ∀ (i : Nat), z_1 ≤ i → gD (Zi (OB.arr (3 : TypeId) 1 (lN (yW.out z)) fun (i x : Nat) => aI (gD (yW.out z) i iZ))) i iZ = iZ) ∧ nat_lit 0 = 0 ∧ 0 = 0 ∧ z_1 = Int.toNat q1) ∧ 3 = 3 ∧ 1 = 1 ∧ lN (yW.out z) = lN (yW.out z) ∧ ∀ (i j : Nat), i < lN (yW.out z) → j < 1 → kI ∧ gD (yW.out
 z) i iZ = gD (yW.out z) i iZ) ∧ ∀ (z_1 : Nat), let q17 := (!zr true (zF iZ (cI z_1)) || zr true (zF iZ (cI z_1))); (z_1 ≤ lN q16 ∧ ∀ (i : Nat), z_1 ≤ i → gD (Zi (OB.arr (3 : TypeId) 1 (lN (yW.out z)) fun (i x : Nat) => aI (gD (yW.out z) i iZ))) i iZ = iZ) → bF q17 (bF q17 (bF (!zr true (zF iZ (cI z_1)) || dK ((cI z_1) - iO)) (bF q17 (bF q17 (bF (!zr true (zF iZ (cI z_1)) || DB.db (iZ ≤
 (cI z_1) - iO ∧ (cI z_1) - iO < (cI z_1))) (bF q17 (bF q17 (bF (!zF iZ (cI z_1) || zr true (zF iZ (cI z_1))) (zZ (bif zF iZ (cI z_1) then gD (yW.out z) (0 + Int.toNat ((cI z_1) - iO)) iZ == iZ else false) (bF (dK ((cI z_1) - iO)) (bF (DB.db (iZ ≤ (cI z_1) - iO ∧ (cI z_1) - iO ≤ (cI z_1))) (∃ (z' : Nat), (((z' ≤ lN q16 ∧ ∀ (i : Nat), z' ≤ i → gD (Zi (OB.arr (3 : TypeId) 1 (lN (yW.out z))
 fun (i x : Nat) => aI (gD (yW.out z) i iZ))) i iZ = iZ) ∧ z' < z_1) ∧ nat_lit 0 = 0 ∧ 0 = 0 ∧ z' = Int.toNat ((cI z_1) - iO)) ∧ 3 = 3 ∧ 1 = 1 ∧ lN (yW.out z) = lN (yW.out z) ∧ ∀ (i j : Nat), i < lN (yW.out z) → j < 1 → kI ∧ gD (yW.out z) i iZ = gD (yW.out z) i iZ))) (3 = 3 ∧ 1 = 1 ∧ z_1 = lN (We x y) ∧ ∀ (i j : Nat), i < lN (We x y) → j < 1 → kI ∧ gD (yW.out z) i iZ = gD (We x y) i (0 :
 Int))))))))))))))) := by
 delta bF dK xI cI kI lZ lN gD iZ iO iB aI
 dsimp only
 intro hb
 have e0 : (zS.dflt : Int) = 0 := rfl
 simp only [↓yx, ↓ZI, row_one]
 simp only [sS, dS, e0, HC, implies_true, and_true]
 have en : ((x.length : Int) + (y.length : Int) + 1).toNat = x.length + y.length + 1 := by omega
 rw [en]
 refine ⟨⟨by omega, by omega⟩, ⟨by omega, by omega⟩, ⟨by omega, Int.le_refl _, by omega⟩, ⟨⟨0, List.replicate (x.length + y.length + 1) 0⟩, ⟨⟨.zero_ (by omega) _ _, Nat.zero_le _⟩, rfl⟩, by simp, fun i j _ hj => vB _ i j hj⟩, fun z ⟨z1, z2⟩ => ⟨fun hz => ⟨⟨by omega, hz⟩, ⟨by omega, by omega⟩, ⟨⟨0, 0, z.out⟩, ⟨⟨z1.start (by omega), Nat.zero_le _, fun h => rfl⟩, rfl, rfl⟩, rfl, fun _ _ _ _ => rfl⟩, fun w ⟨w1, w2, w3⟩ => ⟨fun hk0 => ?_, fun hk0 => ?_⟩⟩, fun hz => ?_⟩⟩
 ·have hz' : z.i < x.length := by omega
  have w4 := w1.len
  have hk : w.k ≤ y.length := by omega
  have ek : ((z.i : Int) + (w.k : Int)).toNat = z.i + w.k := by omega
  rw [ek]
  obtain ⟨⟨n0, n1⟩, hs⟩ := w1.step (by omega) hx hy hz' hk
  have g1 := hx.get (by omega) z.i
  have g2 := hy.get (by omega) w.k
  have g3 := w1.in_.get (by omega) (z.i + w.k)
  have c0 := w1.c0
  have c1 := w1.c1
  have p0 : 0 ≤ x.getD z.i 0 * y.getD w.k 0 := Int.mul_nonneg g1.1 g2.1
  have d0 := hs.c0
  have d1 := hs.c1
  refine ⟨⟨by omega, by omega⟩, ⟨by omega, by omega⟩, by omega, ⟨by omega, by omega⟩, ⟨by omega, by omega⟩, ⟨by omega, by omega⟩, ⟨by omega, by omega⟩, ⟨by omega, by omega⟩, ⟨by omega, by omega⟩, ⟨by omega, by omega⟩, ⟨w.k + 1, _, _⟩, ⟨⟨⟨hs, by simp only; omega, fun h => ?_⟩, by simp only; omega⟩, rfl, rfl⟩, by simp, fun i j _ => sL _ _ _ (by omega) i j⟩
  have hk' : w.k = y.length := by simp only at h; omega
  have := (hk' ▸ w1 : MulK 1000000000 x y z.i y.length w.out w.c).last (by omega)
  rw [← hk'] at this
  exact this
 ·have c0 := w1.c0
  have hc := w3 (by omega)
  exact ⟨⟨by omega, by omega⟩, ⟨z.i + 1, w.out⟩, ⟨⟨⟨w1.fin (by omega) w2 hc, by simp only; omega⟩, by simp only; omega⟩, rfl⟩, rfl, fun _ _ _ _ => rfl⟩
 ·have hz' : z.i = x.length := by omega
  have zl := z1.len
  have he := (hz' ▸ z1 : Ww 1000000000 x y x.length z.out).end_ (b := 1000000000) (by omega)
  refine ⟨⟨x.length + y.length + 1, ⟨by omega, fun i hi => WF (by omega)⟩, rfl⟩, fun k ⟨k1, k2⟩ => ⟨fun h => ?_, fun h => ?_, zY.2 ⟨fun c => ?_, fun c => ?_⟩⟩⟩
  ·have := (zp _ _).1 h; exact ⟨by omega, by omega⟩
  ·have := (zp _ _).1 h; exact ⟨by omega, by omega⟩
  ·obtain ⟨c1, c2⟩ := Tn k2 c
   exact ⟨⟨by omega, by omega⟩, ⟨by omega, by omega⟩, k - 1, ⟨⟨by omega, c2⟩, by omega⟩, by omega⟩
  ·have ht := TD k1 k2 c
   have hp : z.out.take k = We x y := ht.symm.trans he
   have hkl : k = (We x y).length := by rw [← hp, List.length_take]; omega
   exact ⟨hkl, fun i j hi _ => by rw [← hp, Ye (by omega)]⟩
theorem LZ {x y : List Int} (hx : ZP 1000000000 x) (hy : ZP 1000000000 y) (hlx : x.length ≤ 1000000000) (hly : y.length ≤ 1000000000) : yo Tryz.prog [] 113 [ZD x, ZD y] 3 1 (We x y).length (fun i _ => .i ((We x y).getD i 0)) :=
 S7 mixed Pi (Eq.mp (by kernel_rfl) (Nj x y hx hy hlx hly) : SF Tryz.prog gK 113 (Tw x y) [ZD x, ZD y] 3 1 (We x y).length (fun i _ => .i ((We x y).getD i 0)))
def Sw : List AV → Option (List zk × TypeId × Nat × Nat × (Nat → Nat → AV))
 | [x, y] => some ([.b (zC Int x), .b (zC Int y), .p (ZP 1000000000 (zV x)), .p (ZP 1000000000 (zV y)), .p ((zV x).length ≤ 1000000000), .p ((zV y).length ≤ 1000000000)], 3, 1, (We (zV x) (zV y)).length, fun i _ => .i ((We (zV x) (zV y)).getD i 0))
 | _ => none
theorem kG : UX Tryz.prog [] 113 Sw := by
 intro xs ps ty sz len els h hp
 unfold Sw at h
 split at h
 ·rename_i x y
  cases h
  have q0 : zC Int x = true := hp (.b (zC Int x)) (by simp)
  have q1 : zC Int y = true := hp (.b (zC Int y)) (by simp)
  have q2 : ZP 1000000000 (zV x) := hp (.p (ZP 1000000000 (zV x))) (by simp)
  have q3 : ZP 1000000000 (zV y) := hp (.p (ZP 1000000000 (zV y))) (by simp)
  have q4 : (zV x).length ≤ 1000000000 := hp (.p ((zV x).length ≤ 1000000000)) (by simp)
  have q5 : (zV y).length ≤ 1000000000 := hp (.p ((zV y).length ≤ 1000000000)) (by simp)
  exact lM (ys := [ZD (zV x), ZD (zV y)]) ⟨zg q0, zg q1, trivial⟩ (LZ q2 q3 q4 q5)
 ·cases h
end Go.Te
