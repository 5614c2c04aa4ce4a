/- integer: write, result; strings.Repeat of the digit 0. -/
import Derived.Test.YthbpnknhfokadaaGreatDoorThI0
set_option linter.unusedSimpArgs false
set_option linter.unusedVariables false
namespace Go.Te
open Go Go.Sx Go.Proofs Go.Ar Go.Lib
set_option maxRecDepth 100000
set_option maxHeartbeats 4000000
def ME : List AV → Option (List zn × AV)
 | [.str s, .v (.int .i64 k)] => some ([.b (s == [48]), .p (0 ≤ k ∧ k ≤ 14)], .str (List.replicate k.toNat 48))
 | _ => none
theorem JJ  :
 True := by
 trivial
theorem JZ  :
 True := by
 trivial
theorem jm  :
 True := by
 trivial
theorem j9  :
 True := by
 trivial
theorem Jd  :
 True := by
 trivial
theorem JI  :
 True := by
 trivial
theorem Ir  :
 True := by
 trivial
theorem ji  :
 True := by
 trivial
theorem ib  :
 True := by
 trivial
theorem JG  :
 True := by
 trivial
theorem kq  :
 True := by
 trivial
theorem kz  :
 True := by
 trivial
theorem kf  :
 True := by
 trivial
theorem kV  :
 True := by
 trivial
theorem L5  :
 True := by
 trivial
theorem vW {k : Int} {n : Nat} (e : k = n) (h : Pz Tryz.prog (T0.deep Tryz.prog 5) 116 .auto [.str [48], .i k] (gF (List.replicate n 48))) : zU Tryz.prog [] 116 [.str [48], .i k] (.str (List.replicate k.toNat 48)) := by
 subst e
 exact rj mixed (zz.deep mixed zQ 5) Li h
theorem HV : zp Tryz.prog [] 116 ME := by
 intro xs ps r h hp
 unfold ME at h
 split at h
 ·rename_i s k
  cases h
  have q : (s == [48]) = true := hp _ List.mem_cons_self
  have q1 : 0 ≤ k ∧ k ≤ 14 := hp _ (List.mem_cons_of_mem _ List.mem_cons_self)
  obtain rfl := eq_of_beq q
  obtain ⟨n, rfl⟩ : ∃ n : Nat, k = n := ⟨k.toNat, by omega⟩
  match n, q1 with
  | 0, _ => exact vW rfl (Eq.mp (by kernel_rfl) JJ)
  | 1, _ => exact vW rfl (Eq.mp (by kernel_rfl) JZ)
  | 2, _ => exact vW rfl (Eq.mp (by kernel_rfl) jm)
  | 3, _ => exact vW rfl (Eq.mp (by kernel_rfl) j9)
  | 4, _ => exact vW rfl (Eq.mp (by kernel_rfl) Jd)
  | 5, _ => exact vW rfl (Eq.mp (by kernel_rfl) JI)
  | 6, _ => exact vW rfl (Eq.mp (by kernel_rfl) Ir)
  | 7, _ => exact vW rfl (Eq.mp (by kernel_rfl) ji)
  | 8, _ => exact vW rfl (Eq.mp (by kernel_rfl) ib)
  | 9, _ => exact vW rfl (Eq.mp (by kernel_rfl) JG)
  | 10, _ => exact vW rfl (Eq.mp (by kernel_rfl) kq)
  | 11, _ => exact vW rfl (Eq.mp (by kernel_rfl) kz)
  | 12, _ => exact vW rfl (Eq.mp (by kernel_rfl) kf)
  | 13, _ => exact vW rfl (Eq.mp (by kernel_rfl) kV)
  | 14, _ => exact vW rfl (Eq.mp (by kernel_rfl) L5)
  | n + 15, q1 => exact absurd q1.2 (by omega)
 ·cases h
def Tb.own1 (T : Tb) (f : FuncId) (t : Nat → (Nat → OB) → List AV → (Nat → (Nat → OB) → AV → Prop) → Prop) : Tb := { T with own := fun g => bif Nat.beq g f then some t else T.own g }
theorem zz.own1 {P : Program} {T : Tb} (hT : zz P T) {f : FuncId} {t : Nat → (Nat → OB) → List AV → (Nat → (Nat → OB) → AV → Prop) → Prop} (ht : uT P T.objs f t) : zz P (Tb.own1 T f t) := by
 refine ⟨fun g t' h => ?_, hT.pu, hT.fre⟩
 simp only [Tb.own1] at h
 cases hx : Nat.beq g f with
 | false => rw [hx] at h; exact hT.own _ _ h
 | true =>
  rw [hx] at h
  obtain rfl := Nat.eq_of_beq_eq_true hx
  cases h
  exact ht
noncomputable def GV (G : List (Nat × Obj)) : Tb := (Tb.own1 (Tb.own1 (NR G) 189 H0) 160 kH).body Tryz.prog [(185, .auto), (158, .auto), (159, .auto), (177, .auto)]
theorem P8 {G : List (Nat × Obj)} (hG : zo G) : zz Tryz.prog (GV G) := zz.body mixed (zz.own1 (zz.own1 (YZ hG) (iM G)) (Kt G)) _
noncomputable def Gg (G : List (Nat × Obj)) : Tb := (GV G).plus 116 ME
theorem oC {G : List (Nat × Obj)} (hG : zo G) : zz Tryz.prog (Gg G) := zz.plus (P8 hG) (zp.mono HV)
def zH (x : Big) (z : Nat) : zj := (bif x.neg then [45] else []) ++ Lib.decDigits (wk 1000000000 x.l z)
def HP (σ : zK) : Nat :=
 match σ.bl 1 with
 | .box _ _ cs => YN (cs 1)
 | _ => 0
def jh (x : Big) : yS :=
 .two .auto (.one (.two .auto (.unroll (x.l.length + 1) (.loop Nat (fun σ z => [(0, σ.tm 0), (1, σ.tm 1), (3, .i ((z : Int) - 1))])
  (fun σ z => [(1, .box 210 2 (zw [.np 1 0, .ns σ.nb 0 (zH x z).length])), (HP σ, .dead), (σ.nb, gI (zH x z))]) 1 (fun _ z => z < x.l.length) (fun _ z => z) .auto))))
def iT (x : Big) : yS :=
 .two .auto (.two .auto (.two .auto (.two .auto (.two (.two .auto (.one (.range (jh x) .auto .auto))) .auto))))
theorem TU (a b : zj) (i : Nat) : (a ++ b).getD i 0 = if i < a.length then a.getD i 0 else b.getD (i - a.length) 0 := by
 by_cases h : i < a.length
 ·rw [if_pos h, List.getD_eq_getElem?_getD, List.getElem?_append_left h, ← List.getD_eq_getElem?_getD]
 ·rw [if_neg h, List.getD_eq_getElem?_getD, List.getElem?_append_right (by omega), ← List.getD_eq_getElem?_getD]
theorem gK (a b : zj) (i : Nat) : zE (if i < a.length then AV.v (Value.int IntKind.u8 ((a.getD i 0).toNat : Int)) else AV.v (Value.int IntKind.u8 ((b.getD (i - a.length) 0).toNat : Int))) (AV.v (Value.int IntKind.u8 (((a ++ b).getD i 0).toNat : Int))) := by
 rw [TU]
 split <;> exact zT _
theorem gm (a b c : zj) (i : Nat) : zE (if i < a.length + b.length then (if i < a.length then AV.v (Value.int IntKind.u8 ((a.getD i 0).toNat : Int)) else AV.v (Value.int IntKind.u8 ((b.getD (i - a.length) 0).toNat : Int))) else AV.v (Value.int IntKind.u8 ((c.getD (i - (a.length + b.length)) 0).toNat : Int))) (AV.v (Value.int IntKind.u8 (((a ++ b ++ c).getD i 0).toNat : Int))) := by
 rw [TU (a ++ b) c, List.length_append]
 split
 ·exact gK a b i
 ·exact zT _
theorem gE (c : UInt8) (b : zj) (i : Nat) : zE (if i < 1 then AV.v (Value.int IntKind.u8 (c.toNat : Int)) else AV.v (Value.int IntKind.u8 ((b.getD (i - 1) 0).toNat : Int))) (AV.v (Value.int IntKind.u8 (((c :: b).getD i 0).toNat : Int))) := by
 match i with
 | 0 => exact zT _
 | i + 1 => rw [if_neg (by omega)]; exact zT _
theorem WP {n : Int} (h0 : 0 ≤ n) (h1 : n < 1000000000) : 1 ≤ (itoa n).length ∧ (itoa n).length ≤ 9 ∧ itoa n = decDigits n.toNat := by
 obtain ⟨m, rfl⟩ : ∃ m : Nat, n = m := ⟨n.toNat, by omega⟩
 have e : itoa (m : Int) = decDigits m := Go.Ar.Z8 m
 rw [Int.toNat_natCast, e]
 refine ⟨yk m, ?_, rfl⟩
 rw [Lib.decDigits_length]
 exact (ZX (by omega)).2 (by omega)
theorem nk {x : Big} (hx : Zp 1000000000 x.l) (h : 0 < x.l.length) : zH x (x.l.length - 1) = (bif x.neg then [45] else []) ++ itoa (x.l.getD (x.l.length - 1) 0) := by
 have g := hx.get (by omega) (x.l.length - 1)
 rw [(WP g.1 g.2).2.2]
 unfold zH
 rw [oP h]
theorem M6 {l : List Int} (hx : Zp 1000000000 l) (ht : zI l = l) {z : Nat} (hz : z < l.length) : wk 1000000000 l z ≠ 0 := by
 have e : l = zu 1000000000 (zv 1000000000 l).toNat := X0 (b := 1000000000) (by omega) hx ht
 have hn : (zv 1000000000 l).toNat ≠ 0 := fun e0 => by
  rw [e0, ZB] at e
  rw [e] at hz
  exact absurd hz (Nat.not_lt_zero _)
 rw [e] at hz ⊢
 exact na (b := 1000000000) (by omega) hn hz
theorem KI {x : Big} (hx : Zp 1000000000 x.l) (ht : zI x.l = x.l) {z : Nat} (h0 : 0 < z) (h : z < x.l.length) :
  zH x (z - 1) = zH x z ++ List.replicate (9 - ((itoa (x.l.getD (z - 1) 0)).length : Int)).toNat 48 ++ itoa (x.l.getD (z - 1) 0) := by
 have g := hx.get (by omega) (z - 1)
 obtain ⟨g1, g2, g3⟩ := WP g.1 g.2
 have hs := OK (k := 9) (l := x.l) (by omega) hx (i := z - 1) (by omega) (by rw [show z - 1 + 1 = z by omega]; exact M6 hx ht h)
 rw [show z - 1 + 1 = z by omega] at hs
 unfold zH
 rw [show decDigits (wk 1000000000 x.l (z - 1)) = decDigits (wk 1000000000 x.l z) ++ Um 9 (x.l.getD (z - 1) 0).toNat from hs]
 unfold Um
 rw [← g3, show (9 - ((itoa (x.l.getD (z - 1) 0)).length : Int)).toNat = 9 - (itoa (x.l.getD (z - 1) 0)).length by omega]
 simp only [List.append_assoc]
theorem Jb {x : Big} (hx : Zp 1000000000 x.l) (z : Nat) : (zH x z).length ≤ 9 * x.l.length + 2 := by
 unfold zH
 rw [List.length_append]
 have h1 : (bif x.neg then [(45 : UInt8)] else []).length ≤ 1 := by cases x.neg <;> simp
 have h2 : (decDigits (wk 1000000000 x.l z)).length ≤ 9 * x.l.length + 1 := by
  rw [Lib.decDigits_length]
  refine (ZX (by omega)).2 ?_
  have h3 := YI (b := 1000000000) (by omega) (hx.drop z)
  have h4 := zG (b := 1000000000) (by omega) (hx.drop z)
  unfold wk
  have h5 : (1000000000 : Nat) ^ (x.l.drop z).length ≤ 1000000000 ^ x.l.length := Nat.pow_le_pow_right (by omega) (by simp)
  have h6 : (1000000000 : Nat) ^ x.l.length = 10 ^ (9 * x.l.length) := by rw [Nat.pow_mul]
  have h7 : 10 ^ (9 * x.l.length) ≤ 10 ^ (9 * x.l.length + 1) := Nat.pow_le_pow_right (by omega) (by omega)
  have h8 : (zv 1000000000 (x.l.drop z)).toNat < 1000000000 ^ (x.l.drop z).length := by
   have : ((zv 1000000000 (x.l.drop z)).toNat : Int) < ((1000000000 ^ (x.l.drop z).length : Nat) : Int) := by rw [Int.toNat_of_nonneg h4, Int.natCast_pow]; exact h3
   omega
  exact Nat.lt_of_lt_of_le h8 (by omega)
 omega
theorem JH {x : Big} (hx : Zp 1000000000 x.l) (ht : zI x.l = x.l) (h : 0 < x.l.length) : zH x 0 = itoa (bif x.neg then - zv 1000000000 x.l else zv 1000000000 x.l) ∧ 0 < (zH x 0).length := by
 have hz := M6 hx ht h
 have e : wk 1000000000 x.l 0 = (zv 1000000000 x.l).toNat := by unfold wk; rw [List.drop_zero]; rfl
 rw [e] at hz
 unfold zH
 rw [e]
 obtain ⟨n, hn⟩ : ∃ n : Nat, zv 1000000000 x.l = n := ⟨(zv 1000000000 x.l).toNat, by omega⟩
 rw [hn] at hz ⊢
 rw [Int.toNat_natCast] at hz ⊢
 refine ⟨?_, by have := yk n; simp; omega⟩
 cases x.neg with
 | true => exact (Go.Ar.itoa_neg (by omega)).symm
 | false => exact (Go.Ar.Z8 n).symm
def u4 : List AV → Option (List zn × AV)
 | [x_x] => some ([.b (yt Big x_x), .p (Zp 1000000000 (Z4 (α := Big) x_x).l), .p (zI (Z4 (α := Big) x_x).l = (Z4 (α := Big) x_x).l), .p ((Z4 (α := Big) x_x).l.length ≤ 100000000)], .str (itoa (bif (Z4 (α := Big) x_x).neg then - zv 1000000000 (Z4 (α := Big) x_x).l else zv 1000000000 (Z4 (α := Big) x_x).l)))
 | _ => none
theorem OA (G : List (Nat × Obj)) (x : Big) (hx : Zp 1000000000 x.l) (ht : zI x.l = x.l) (hl : x.l.length ≤ 100000000) :
 let q1 := (bif Big.neg x then -zv iB (Big.l x) else zv iB (Big.l x)); let q3 := ((lZ (Big.l x)) - iO); let q2 := (dK q3); let q4 := (leB iZ q3); let q5 := (DB.db (iZ ≤ (lZ (Big.l x)) - iO ∧ (lZ (Big.l x)) - iO < (lZ (Big.l x)))); let q7 := (Int.toNat q3); let q6 := (iN ≤ gD (Big.l x) q7 zr.dflt ∧ gD (Big.l x) q7 zr.dflt ≤ iX); let q8 := (zg q3 q3); let q12 := (itoa
 (gD (Big.l x) q7 zr.dflt)); let q11 := (lZ q12); let q10 := ((9 : Int) - q11); let q9 := (dK q10); let q13 := (iZ ≤ (9 : Int) - q11 ∧ (9 : Int) - q11 ≤ (14 : Int)); let q15 := (List.replicate (Int.toNat q10) (48 : UInt8)); let q14 := (1 + lN q15); let q16 := (dK ((lZ (Big.l x)) - iO - iO)); let q18 := (xI (Big.l x)); let q17 := (143 = 143 ∧ 2 = 2 ∧ Big.neg x = Big.neg x ∧ zE q18 q18); Zt [AV.agg 2
 (zr.enc x)] → zZ ((lZ (Big.l x)) == iZ) (bA #[(48 : UInt8)] = itoa q1) (zZ (Big.neg x) (bF q2 (zZ q4 (bF q5 (q6 ∧ bF q2 (zZ q8 (bF q9 (q13 ∧ bF (DB.db (q14 * 1 ≤ 140737488355328)) (bF (DB.db ((1 + lN q15 + lN q12) * 1 ≤ 140737488355328)) (bF q16 ((∃ (z : Nat), ((z < lN (Big.l x) ∧ z < lN (Big.l x) + 1) ∧ nat_lit 4 = 4 ∧ (nat_lit 3 = 3 ∧ 0 = 0) ∧ kI ∧ (lZ (Big.l x)) - iO - iO = (cI z) - iO) ∧
 ((((((q17 ∧ 210 = 210 ∧ 2 = 2 ∧ (1 = 1 ∧ 0 = 0) ∧ nat_lit 7 = 7 ∧ 0 = 0 ∧ lN (zH x z) = 1 + lN q15 + lN q12) ∧ True) ∧ 141 = 141 ∧ 1 = 1 ∧ zE q18 q18) ∧ lR) ∧ True) ∧ True) ∧ (5 : TypeId) = 5 ∧ 1 = 1 ∧ lN (zH x z) = 1 + lN q15 + lN q12 ∧ ∀ (i j : Nat), i < 1 + lN q15 + lN q12 → j < 1 → zE (if i < 1 + lN q15 then if i < 1 then Sx.rowAt [fun (x : Nat) => AV.v (Value.int IntKind.u8 (45 : Int))] i j else a8 (gD q15
 (i - 1) (0 : UInt8)) else a8 (gD q12 (i - q14) (0 : UInt8))) (a8 (gD (zH x z) i (0 : UInt8)))) ∧ ∀ (z : Nat), let q21 := (itoa (gD (Big.l x) (Int.toNat ((cI z) - iO)) zr.dflt)); let q20 := (lZ q21); let q19 := ((9 : Int) - q20); let q23 := (List.replicate (Int.toNat q19) (48 : UInt8)); let q22 := (lN (zH x z) + lN q23); let q24 := (dK ((cI z) - iO - iO)); z < lN (Big.l x) →
 zZ (leB iZ ((cI z) - iO)) (bF (DB.db (iZ ≤ (cI z) - iO ∧ (cI z) - iO < (lZ (Big.l x)))) ((iN ≤ gD (Big.l x) (Int.toNat ((cI z) - iO)) zr.dflt ∧ gD (Big.l x) (Int.toNat ((cI z) - iO)) zr.dflt ≤ iX) ∧ bF q2 (zZ (zg ((cI z) - iO) q3) (bF (dK q19) ((iZ ≤ (9 : Int) - q20 ∧ (9 : Int) - q20 ≤ (14 : Int)) ∧ bF (DB.db (q22 * 1 ≤ 140737488355328)) (bF (DB.db ((lN (zH x z) +
 lN q23 + lN q21) * 1 ≤ 140737488355328)) (bF q24 (∃ (z' : Nat), ((z' < lN (Big.l x) ∧ z' < z) ∧ nat_lit 4 = 4 ∧ (nat_lit 3 = 3 ∧ 0 = 0) ∧ kI ∧ (cI z) - iO - iO = (cI z') - iO) ∧ ((((((q17 ∧ 210 = 210 ∧ 2 = 2 ∧ (1 = 1 ∧ 0 = 0) ∧ nat_lit 7 = 7 ∧ 0 = 0 ∧ lN (zH x z') = lN (zH x z) + lN q23 + lN q21) ∧ True) ∧ 141 = 141 ∧ 1 = 1 ∧ zE q18 q18) ∧ lR) ∧ True) ∧ True) ∧ (5 : TypeId) = 5 ∧ 1 = 1 ∧ lN (zH x z') = List.length
 (zH x z) + lN q23 + lN q21 ∧ ∀ (i j : Nat), i < lN (zH x z) + lN q23 + lN q21 → j < 1 → zE (if i < lN (zH x z) + lN q23 then if i < lN (zH x z) then a8 (gD (zH x z) i (0 : UInt8)) else a8 (gD q23 (i - lN (zH x z)) (0 : UInt8)) else a8 (gD q21 (i - q22) (0 : UInt8))) (a8 (gD (zH x z') i (0 :
 UInt8)))))))) (bF (DB.db ((lN (zH x z) + lN q21) * 1 ≤ 140737488355328)) (bF q24 (∃ (z' : Nat), ((z' < lN (Big.l x) ∧ z' < z) ∧ nat_lit 4 = 4 ∧ (nat_lit 3 = 3 ∧ 0 = 0) ∧ kI ∧ (cI z) - iO - iO = (cI z') - iO) ∧ ((((((q17 ∧ 210 = 210 ∧ 2 = 2 ∧ (1 = 1 ∧ 0 = 0) ∧ nat_lit 7 = 7 ∧ 0 = 0 ∧ lN (zH x z') = lN (zH x z) + lN q21) ∧ True) ∧ 141 = 141 ∧ 1 = 1 ∧ zE q18 q18) ∧ lR) ∧ True) ∧ True) ∧ (5 : TypeId) =
 5 ∧ 1 = 1 ∧ lN (zH x z') = lN (zH x z) + lN q21 ∧ ∀ (i j : Nat), i < lN (zH x z) + lN q21 → j < 1 → zE (if i < lN (zH x z) then a8 (gD (zH x z) i (0 : UInt8)) else a8 (gD q21 (i - lN (zH x z)) (0 : UInt8))) (a8 (gD (zH x z') i (0 : UInt8))))))))) (0 < lN (zH x z) ∧ ∃ (l : List UInt8), lN l = lN (zH x
 z) ∧ (∀ (i : Nat), i < lN (zH x z) → a8 (gD (zH x z) i (0 : UInt8)) = a8 (gD l i (0 : UInt8))) ∧ l = itoa q1)))))) (zZ (DB.db ((1 + lN q12) * 1 ≤ 140737488355328)) (bF q16 ((∃ (z : Nat), ((z < lN (Big.l x) ∧ z < lN (Big.l x) + 1) ∧ nat_lit 4 = 4 ∧ (nat_lit 3 = 3 ∧ 0 = 0) ∧ kI ∧ (lZ (Big.l x)) - iO - iO = (cI z) - iO) ∧ (((((q17 ∧ 210 = 210 ∧ 2 = 2 ∧ (1 = 1 ∧
 0 = 0) ∧ nat_lit 6 = 6 ∧ 0 = 0 ∧ lN (zH x z) = 1 + lN q12) ∧ True) ∧ 141 = 141 ∧ 1 = 1 ∧ zE q18 q18) ∧ lR) ∧ True) ∧ (5 : TypeId) = 5 ∧ 1 = 1 ∧ lN (zH x z) = 1 + lN q12 ∧ ∀ (i j : Nat), i < 1 + lN q12 → j < 1 → zE (if i < 1 then Sx.rowAt [fun (x : Nat) => AV.v (Value.int IntKind.u8 (45 : Int))] i j else a8 (gD q12 (i - 1) (0 : UInt8))) (a8 (gD (zH x z) i (0 : UInt8)))) ∧ ∀ (z :
 Nat), let q27 := (itoa (gD (Big.l x) (Int.toNat ((cI z) - iO)) zr.dflt)); let q26 := (lZ q27); let q25 := ((9 : Int) - q26); let q29 := (List.replicate (Int.toNat q25) (48 : UInt8)); let q28 := (lN (zH x z) + lN q29); let q30 := (dK ((cI z) - iO - iO)); z < lN (Big.l x) → zZ (leB iZ ((cI z) - iO)) (bF (DB.db (iZ ≤ (cI z) - iO ∧ (cI z) - iO < (lZ (Big.l x)))) ((iN ≤ gD (Big.l x) (Int.toNat ((↑z
 : Int) - iO)) zr.dflt ∧ gD (Big.l x) (Int.toNat ((cI z) - iO)) zr.dflt ≤ iX) ∧ bF q2 (zZ (zg ((cI z) - iO) q3) (bF (dK q25) ((iZ ≤ (9 : Int) - q26 ∧ (9 : Int) - q26 ≤ (14 : Int)) ∧ bF (DB.db (q28 * 1 ≤ 140737488355328)) (bF (DB.db ((lN (zH x z) + lN q29 + lN q27) * 1 ≤ 140737488355328)) (bF q30 (∃ (z' : Nat), ((z' < lN (Big.l x) ∧ z' < z) ∧ nat_lit 4 = 4 ∧ (nat_lit 3 = 3 ∧ 0 = 0) ∧ kI ∧ (cI z) - iO - iO = (cI z')
 - iO) ∧ (((((q17 ∧ 210 = 210 ∧ 2 = 2 ∧ (1 = 1 ∧ 0 = 0) ∧ nat_lit 6 = 6 ∧ 0 = 0 ∧ lN (zH x z') = lN (zH x z) + lN q29 + lN q27) ∧ True) ∧ 141 = 141 ∧ 1 = 1 ∧ zE q18 q18) ∧ lR) ∧ True) ∧ (5 : TypeId) = 5 ∧ 1 = 1 ∧ lN (zH x z') = lN (zH x z) + lN q29 + lN q27 ∧ ∀ (i j : Nat), i < lN (zH x z) + lN q29 + lN q27 → j < 1 → zE (if i < lN (zH x z) + lN q29 then if i < lN (zH x z) then AV.v (Value.int
 IntKind.u8 (cI (UInt8.toNat (gD (zH x z) i (0 : UInt8))))) else a8 (gD q29 (i - lN (zH x z)) (0 : UInt8)) else a8 (gD q27 (i - q28) (0 : UInt8))) (a8 (gD (zH x z') i (0 : UInt8)))))))) (bF (DB.db ((lN (zH x z) + lN q27) * 1 ≤ 140737488355328)) (bF q30 (∃ (z' : Nat), ((z' < lN (Big.l x) ∧ z' < z) ∧ nat_lit 4 = 4 ∧ (nat_lit 3 = 3 ∧ 0 = 0) ∧
 kI ∧ (cI z) - iO - iO = (cI z') - iO) ∧ (((((q17 ∧ 210 = 210 ∧ 2 = 2 ∧ (1 = 1 ∧ 0 = 0) ∧ nat_lit 6 = 6 ∧ 0 = 0 ∧ lN (zH x z') = lN (zH x z) + lN q27) ∧ True) ∧ 141 = 141 ∧ 1 = 1 ∧ zE q18 q18) ∧ lR) ∧ True) ∧ (5 : TypeId) = 5 ∧ 1 = 1 ∧ lN (zH x z') = lN (zH x z) + lN q27 ∧ ∀ (i j : Nat), i < lN (zH x z) + lN q27 → j < 1 → zE (if i < lN (zH x z) then a8 (List.getD
 (zH x z) i (0 : UInt8)) else a8 (gD q27 (i - lN (zH x z)) (0 : UInt8))) (a8 (gD (zH x z') i (0 : UInt8))))))))) (0 < lN (zH x z) ∧ ∃ (l : List UInt8), lN l = lN (zH x z) ∧ (∀ (i : Nat), i < lN (zH x z) → a8 (gD (zH x z) i (0 : UInt8)) = a8 (gD l i (0 : UInt8))) ∧ l = itoa q1)))
 False)))) (0 < 1 ∧ ∃ (l : List UInt8), lN l = 1 ∧ (∀ (i : Nat), i < 1 → Sx.rowAt [fun (x : Nat) => AV.v (Value.int IntKind.u8 (45 : Int))] i 0 = a8 (gD l i (0 : UInt8))) ∧ l = itoa q1))) (bF q2 (zZ q4 (bF q5 (q6 ∧ bF q2 (zZ q8 (bF q9 (q13 ∧ bF (DB.db (lN q15 * 1 ≤ 140737488355328)) (bF (DB.db ((lN q15 + lN q12) * 1 ≤ 140737488355328)) (bF q16 ((∃ (z : Nat), ((z < lN (Big.l x) ∧ z < lN (Big.l x) + 1) ∧ nat_lit 3 = 3 ∧ (nat_lit 2 = 2 ∧
 0 = 0) ∧ kI ∧ (lZ (Big.l x)) - iO - iO = (cI z) - iO) ∧ (((((q17 ∧ 210 = 210 ∧ 2 = 2 ∧ (1 = 1 ∧ 0 = 0) ∧ nat_lit 6 = 6 ∧ 0 = 0 ∧ lN (zH x z) = lN q15 + lN q12) ∧ 141 = 141 ∧ 1 = 1 ∧ zE q18 q18) ∧ lR) ∧ True) ∧ True) ∧ (5 : TypeId) = 5 ∧ 1 = 1 ∧ lN (zH x z) = lN q15 + lN q12 ∧ ∀ (i j : Nat), i < lN q15 + lN q12 → j < 1 → zE (if i < lN q15 then a8 (gD q15
 i (0 : UInt8)) else a8 (gD q12 (i - lN q15) (0 : UInt8))) (a8 (gD (zH x z) i (0 : UInt8)))) ∧ ∀ (z : Nat), let q33 := (itoa (gD (Big.l x) (Int.toNat ((cI z) - iO)) zr.dflt)); let q32 := (lZ q33); let q31 := ((9 : Int) - q32); let q35 := (List.replicate (Int.toNat q31) (48 : UInt8)); let q34 := (lN (zH x z) + lN q35); let q36 := (dK ((cI z) - iO - iO)); z < lN (Big.l x) →
 zZ (leB iZ ((cI z) - iO)) (bF (DB.db (iZ ≤ (cI z) - iO ∧ (cI z) - iO < (lZ (Big.l x)))) ((iN ≤ gD (Big.l x) (Int.toNat ((cI z) - iO)) zr.dflt ∧ gD (Big.l x) (Int.toNat ((cI z) - iO)) zr.dflt ≤ iX) ∧ bF q2 (zZ (zg ((cI z) - iO) q3) (bF (dK q31) ((iZ ≤ (9 : Int) - q32 ∧ (9 : Int) - q32 ≤ (14 : Int)) ∧ bF (DB.db (q34 * 1 ≤ 140737488355328)) (bF (DB.db ((lN (zH x z) +
 lN q35 + lN q33) * 1 ≤ 140737488355328)) (bF q36 (∃ (z' : Nat), ((z' < lN (Big.l x) ∧ z' < z) ∧ nat_lit 3 = 3 ∧ (nat_lit 2 = 2 ∧ 0 = 0) ∧ kI ∧ (cI z) - iO - iO = (cI z') - iO) ∧ (((((q17 ∧ 210 = 210 ∧ 2 = 2 ∧ (1 = 1 ∧ 0 = 0) ∧ nat_lit 6 = 6 ∧ 0 = 0 ∧ lN (zH x z') = lN (zH x z) + lN q35 + lN q33) ∧ 141 = 141 ∧ 1 = 1 ∧ zE q18 q18) ∧ lR) ∧ True) ∧ True) ∧ (5 : TypeId) = 5 ∧ 1 = 1 ∧ lN (zH x z') = lN (zH x z)
 + lN q35 + lN q33 ∧ ∀ (i j : Nat), i < lN (zH x z) + lN q35 + lN q33 → j < 1 → zE (if i < lN (zH x z) + lN q35 then if i < lN (zH x z) then a8 (gD (zH x z) i (0 : UInt8)) else a8 (gD q35 (i - lN (zH x z)) (0 : UInt8)) else a8 (gD q33 (i - q34) (0 : UInt8))) (AV.v (Value.int IntKind.u8 (↑(UInt8.toNat (gD (zH x z') i (0 : UInt8))) :
 Int)))))))) (bF (DB.db ((lN (zH x z) + lN q33) * 1 ≤ 140737488355328)) (bF q36 (∃ (z' : Nat), ((z' < lN (Big.l x) ∧ z' < z) ∧ nat_lit 3 = 3 ∧ (nat_lit 2 = 2 ∧ 0 = 0) ∧ kI ∧ (cI z) - iO - iO = (cI z') - iO) ∧ (((((q17 ∧ 210 = 210 ∧ 2 = 2 ∧ (1 = 1 ∧ 0 = 0) ∧ nat_lit 6 = 6 ∧ 0 = 0 ∧ lN (zH x z') = lN (zH x z) + lN q33) ∧ 141 = 141 ∧ 1 = 1 ∧ zE q18 q18) ∧ lR) ∧ True) ∧ True) ∧ (5 : TypeId) = 5 ∧ 1 = 1 ∧
 lN (zH x z') = lN (zH x z) + lN q33 ∧ ∀ (i j : Nat), i < lN (zH x z) + lN q33 → j < 1 → zE (if i < lN (zH x z) then a8 (gD (zH x z) i (0 : UInt8)) else a8 (gD q33 (i - lN (zH x z)) (0 : UInt8))) (a8 (gD (zH x z') i (0 : UInt8))))))))) (0 < lN (zH x z) ∧ ∃ (l : List UInt8), lN l = lN (zH x z) ∧ (∀ (i :
 Nat), i < lN (zH x z) → a8 (gD (zH x z) i (0 : UInt8)) = a8 (gD l i (0 : UInt8))) ∧ l = itoa q1)))))) (bF (DB.db (lN q12 * 1 ≤ 140737488355328)) (bF q16 ((∃ (z : Nat), ((z < lN (Big.l x) ∧ z < lN (Big.l x) + 1) ∧ nat_lit 3 = 3 ∧ (nat_lit 2 = 2 ∧ 0 = 0) ∧ kI ∧ (lZ (Big.l x)) - iO - iO = (cI z) - iO) ∧ ((((q17 ∧ 210 = 210 ∧ 2 = 2 ∧ (1 = 1 ∧ 0 = 0) ∧ nat_lit 5
 = 5 ∧ 0 = 0 ∧ lN (zH x z) = lN q12) ∧ 141 = 141 ∧ 1 = 1 ∧ zE q18 q18) ∧ lR) ∧ True) ∧ (5 : TypeId) = 5 ∧ 1 = 1 ∧ lN (zH x z) = lN q12 ∧ ∀ (i j : Nat), i < lN q12 → j < 1 → IntKind.u8 = IntKind.u8 ∧ (cI (UInt8.toNat (gD q12 i (0 : UInt8)))) = (cI (UInt8.toNat (gD (zH x z) i (0 : UInt8))))) ∧ ∀ (z : Nat), let q39 := (itoa (gD (Big.l x) (Int.toNat ((cI z) - iO)) zr.dflt)); let q38 := (lZ q39); let q37 := ((9 : Int) - q38); let q41 :=
 (List.replicate (Int.toNat q37) (48 : UInt8)); let q40 := (lN (zH x z) + lN q41); let q42 := (dK ((cI z) - iO - iO)); z < lN (Big.l x) → zZ (leB iZ ((cI z) - iO)) (bF (DB.db (iZ ≤ (cI z) - iO ∧ (cI z) - iO < (lZ (Big.l x)))) ((iN ≤ gD (Big.l x) (Int.toNat ((cI z) - iO)) zr.dflt ∧ gD (Big.l x) (Int.toNat ((cI z) - iO)) zr.dflt ≤ iX) ∧ bF q2 (zZ (zg ((cI z) - (1 :
 Int)) q3) (bF (dK q37) ((iZ ≤ (9 : Int) - q38 ∧ (9 : Int) - q38 ≤ (14 : Int)) ∧ bF (DB.db (q40 * 1 ≤ 140737488355328)) (bF (DB.db ((lN (zH x z) + lN q41 + lN q39) * 1 ≤ 140737488355328)) (bF q42 (∃ (z' : Nat), ((z' < lN (Big.l x) ∧ z' < z) ∧ nat_lit 3 = 3 ∧ (nat_lit 2 = 2 ∧ 0 = 0) ∧ kI ∧ (cI z) - iO - iO = (cI z') - iO) ∧ ((((q17 ∧ 210 = 210 ∧ 2 = 2 ∧ (1 = 1 ∧ 0 = 0) ∧ nat_lit 5 = 5 ∧ 0 = 0 ∧ lN (zH x z') = lN (zH x z) + lN q41 + lN q39)
 ∧ 141 = 141 ∧ 1 = 1 ∧ zE q18 q18) ∧ lR) ∧ True) ∧ (5 : TypeId) = 5 ∧ 1 = 1 ∧ lN (zH x z') = lN (zH x z) + lN q41 + lN q39 ∧ ∀ (i j : Nat), i < lN (zH x z) + lN q41 + lN q39 → j < 1 → zE (if i < lN (zH x z) + lN q41 then if i < lN (zH x z) then a8 (gD (zH x z) i (0 : UInt8)) else a8 (gD q41 (i - lN (zH x z)) (0 : UInt8))
 else a8 (gD q39 (i - q40) (0 : UInt8))) (a8 (gD (zH x z') i (0 : UInt8)))))))) (bF (DB.db ((lN (zH x z) + lN q39) * 1 ≤ 140737488355328)) (bF q42 (∃ (z' : Nat), ((z' < lN (Big.l x) ∧ z' < z) ∧ nat_lit 3 = 3 ∧ (nat_lit 2 = 2 ∧ 0 = 0) ∧ kI ∧ (cI z) - iO - iO = (cI z') - iO) ∧ ((((q17 ∧ 210 = 210 ∧ 2 = 2 ∧ (1 = 1 ∧ 0 = 0) ∧ nat_lit 5 = 5 ∧ 0 = 0 ∧ lN (zH x z') =
 lN (zH x z) + lN q39) ∧ 141 = 141 ∧ 1 = 1 ∧ zE q18 q18) ∧ lR) ∧ True) ∧ (5 : TypeId) = 5 ∧ 1 = 1 ∧ lN (zH x z') = lN (zH x z) + lN q39 ∧ ∀ (i j : Nat), i < lN (zH x z) + lN q39 → j < 1 → zE (if i < lN (zH x z) then a8 (gD (zH x z) i (0 : UInt8)) else a8 (gD q39 (i - lN (zH x z)) (0 : UInt8))) (AV.v (Value.int IntKind.u8 (cI (UInt8.toNat
 (gD (zH x z') i (0 : UInt8)))))))))))) (0 < lN (zH x z) ∧ ∃ (l : List UInt8), lN l = lN (zH x z) ∧ (∀ (i : Nat), i < lN (zH x z) → a8 (gD (zH x z) i (0 : UInt8)) = a8 (gD l i (0 : UInt8))) ∧ l = itoa q1))))))) ([] = itoa q1)))) := by
 delta bF dK bA a8 xI lR cI kI lZ lN gD iZ iO iX iN iB
 dsimp only
 intro hb
 have e0 : (zr.dflt : Int) = 0 := rfl
 simp only [↓yy, ↓Zi, row_one]
 simp only [sS, dS, e0]
 refine ⟨fun hz => ?_, fun hz => ?_⟩
 ·have he : x.l = [] := List.eq_nil_of_length_eq_zero (by omega)
  rw [he]
  have : itoa ((0 : Nat) : Int) = [48] := by rw [Go.Ar.Z8, z8 (by omega)]; rfl
  cases x.neg <;> exact this.symm
 have h0 : 0 < x.l.length := by omega
 have en : ((x.l.length : Int) - 1).toNat = x.l.length - 1 := by omega
 have ez : ∀ z : Nat, ((z : Int) - 1).toNat = z - 1 := fun z => by omega
 simp only [en, ez, Nat.mul_one]
 have gN := hx.get (by omega) (x.l.length - 1)
 obtain ⟨i1, i2, i3⟩ := WP gN.1 gN.2
 have f1 := nk hx h0
 refine zX.2 ⟨fun c => ⟨⟨by omega, by omega⟩, fun _ => ⟨⟨by omega, by omega⟩, ⟨by omega, by omega⟩, ⟨by omega, by omega⟩, fun h => absurd h (by omega), fun _ => ⟨by omega, ⟨by omega, by omega⟩, ⟨x.l.length - 1, ⟨⟨by omega, by omega⟩, by omega⟩, ?_, ?_, fun i j _ _ => ?_⟩, ?_⟩⟩, fun h => absurd h (by omega)⟩,
  fun c => ⟨⟨by omega, by omega⟩, fun _ => ⟨⟨by omega, by omega⟩, ⟨by omega, by omega⟩, ⟨by omega, by omega⟩, fun h => absurd h (by omega), fun _ => ⟨by omega, ⟨by omega, by omega⟩, ⟨x.l.length - 1, ⟨⟨by omega, by omega⟩, by omega⟩, ?_, ?_, fun i j _ _ => ?_⟩, ?_⟩⟩, fun h => absurd h (by omega)⟩⟩
 all_goals try rw [c] at f1
 ·rw [f1]; simp only [cond_true, List.length_append, List.length_singleton]
 ·rw [f1]; simp only [cond_true, List.length_append, List.length_singleton]
 ·rw [f1]; exact gE 45 _ i
 rotate_left
 ·rw [f1]; rfl
 ·rw [f1]; rfl
 ·rw [f1]; rfl
 all_goals
  intro z hz1
  have wl := Jb hx z
  refine ⟨fun hz2 => ?_, fun hz2 => ?_⟩
  ·have g := hx.get (by omega) (z - 1)
   obtain ⟨g1, g2, g3⟩ := WP g.1 g.2
   have hs := KI hx ht (z := z) (by omega) hz1
   have lr : (List.replicate (9 - ((itoa (x.l.getD (z - 1) 0)).length : Int)).toNat (48 : UInt8)).length ≤ 8 := by rw [List.length_replicate]; omega
   refine ⟨⟨by omega, by omega⟩, ⟨by omega, by omega⟩, ⟨by omega, by omega⟩, fun _ => ⟨⟨by omega, by omega⟩, ⟨by omega, by omega⟩, by omega, by omega, ⟨by omega, by omega⟩, z - 1, ⟨⟨by omega, by omega⟩, by omega⟩, ?_, ?_, fun i j _ _ => ?_⟩, fun h => absurd h (by omega)⟩
   ·rw [hs, List.length_append, List.length_append]
   ·rw [hs, List.length_append, List.length_append]
   ·rw [hs]; exact gm _ _ _ i
  ·obtain rfl : z = 0 := by omega
   obtain ⟨w1, w2⟩ := JH hx ht h0
   exact ⟨w2, zH x 0, rfl, fun _ _ => rfl, w1⟩
theorem Mc {G : List (Nat × Obj)} (hG : zo G) (x : Big) (hx : Zp 1000000000 x.l) (ht : zI x.l = x.l) (hl : x.l.length ≤ 100000000) : zU Tryz.prog G 152 [Yc x] (.str (itoa (bif x.neg then - zv 1000000000 x.l else zv 1000000000 x.l))) :=
 zW (T := Gg G) (an := iT x) mixed (oC hG) (Eq.mp (by kernel_rfl) (OA G x hx ht hl))
theorem N9 {G : List (Nat × Obj)} (hG : zo G) : zp Tryz.prog G 152 u4 := by
 intro xs ps r h hp
 unfold u4 at h
 split at h
 ·skip
  rename_i x_x
  cases h
  obtain ⟨q0, q1, q2, q3, -⟩ := ZF hp
  exact weaken (ys := [Yc (Z4 (α := Big) x_x)]) ⟨ZT q0, trivial⟩ (Mc hG (Z4 (α := Big) x_x) q1 q2 q3)
 ·cases h
end Go.Te

namespace Go.Te
open Go Go.Sx Go.Proofs Go.Ar
set_option maxRecDepth 100000
set_option maxHeartbeats 4000000
def y6 (n : Bool) (l : List Int) : Int := bif n then - zv 1000000000 l else zv 1000000000 l
theorem MH (x : Big) : Z4 (AV.agg 2 fun i => zr.enc x i) = x := Wr x
theorem OT (x : Big) : yt Big (AV.agg 2 fun i => zr.enc x i) = true := XI x
theorem nT (n : Int) : (zR (Lib.itoa n)).length = Xx n := by
 obtain ⟨h1, h2⟩ := zC n
 rw [← (sG (Lib.itoa n)).2, wY h1, h2]
def WK : List AV → Option (List zn × AV)
 | [x_x] => some ([.b (yt Big x_x), .p (Zp 1000000000 (Z4 (α := Big) x_x).l), .p (zI (Z4 (α := Big) x_x).l = (Z4 (α := Big) x_x).l), .p ((Z4 (α := Big) x_x).l.length ≤ 100000000)], .tup 2 (zw [.str (YL (y6 (Z4 (α := Big) x_x).neg (Z4 (α := Big) x_x).l)), .i (Zm (y6 (Z4 (α := Big) x_x).neg (Z4 (α := Big) x_x).l))]))
 | _ => none
theorem pX (G : List (Nat × Obj)) (x : Big) (hx : Zp 1000000000 x.l) (ht : zI x.l = x.l) (hl : x.l.length ≤ 100000000) :
 let q1 := (AV.agg 2 fun (i : Nat) => zr.enc x (0 + i)); let q3 := (Z4 q1); let q2 := (Big.l q3); let q4 := (bif Big.neg q3 then -zv iB q2 else zv iB q2); Zt [AV.agg 2 (zr.enc x)] → bF (yt Big q1) ((∀ (x_1 : Int), List.Mem x_1 q2 → iZ ≤ x_1 ∧ x_1 < iB) ∧ zI q2 = Big.l q3 ∧ lN q2 ≤ 100000000 ∧ zZ (zg (300 : Int) (lZ (zR (Lib.itoa q4)))) (j2 ∧ (True ∧ bA #[] = YL (y6 (Big.neg x) (Big.l x))) ∧ kI ∧ (4
 : Int) = Zm (y6 (Big.neg x) (Big.l x))) (j2 ∧ (True ∧ Lib.itoa q4 = YL (y6 (Big.neg x) (Big.l x))) ∧ kI ∧ iZ = Zm (y6 (Big.neg x) (Big.l x)))) := by
 delta bF bA kI j2 lZ lN iZ iB
 dsimp only
 intro hb
 have e0 : (zr.dflt : Int) = 0 := rfl
 simp only [↓yy, ↓Zi, row_one]
 simp only [sS, dS, e0, MH, OT]
 refine ⟨hx, ht, hl, fun h => ?_, fun h => ?_⟩
 all_goals
  have hn := nT (y6 x.neg x.l)
  unfold y6 at hn
  rw [hn] at h
  unfold YL Zm y6
 ·rw [(Zx _ _).2 (show 300 < Xx _ by omega)]
  exact ⟨rfl, rfl, rfl⟩
 ·rw [show Nat.blt 300 (Xx (bif x.neg then - zv 1000000000 x.l else zv 1000000000 x.l)) = false from Bool.eq_false_iff.2 fun e => by have := (Zx _ _).1 e; omega]
  exact ⟨rfl, rfl, rfl⟩
theorem On {G : List (Nat × Obj)} (hG : zo G) (x : Big) (hx : Zp 1000000000 x.l) (ht : zI x.l = x.l) (hl : x.l.length ≤ 100000000) : zU Tryz.prog G 103 [Yc x] (.tup 2 (zw [.str (YL (y6 x.neg x.l)), .i (Zm (y6 x.neg x.l))])) :=
 zW (T := ((NR G).plus 152 u4).plus 95 (Yk fun s => .str (zR s))) (an := .auto) mixed (zz.plus (zz.plus (YZ hG) (N9 hG)) (zp.mono VZ)) (Eq.mp (by kernel_rfl) (pX G x hx ht hl))
theorem Td {G : List (Nat × Obj)} (hG : zo G) : zp Tryz.prog G 103 WK := by
 intro xs ps r h hp
 unfold WK at h
 split at h
 ·skip
  rename_i x_x
  cases h
  obtain ⟨q0, q1, q2, q3, -⟩ := ZF hp
  exact weaken (ys := [Yc (Z4 (α := Big) x_x)]) ⟨ZT q0, trivial⟩ (On hG (Z4 (α := Big) x_x) q1 q2 q3)
 ·cases h
def tU (xs : List AV) : Option (List zn × AV) :=
 match rP xs with
 | some r => some r
 | none => sB xs
theorem qK : zp Tryz.prog [] 148 tU := by
 intro xs ps r h hp
 unfold tU at h
 split at h
 ·rename_i r' h'
  cases h
  exact Kh _ _ _ h' hp
 ·exact Lj _ _ _ h hp
noncomputable def GQ : Tb := (T0.plus 148 tU).plus 150 U1
theorem OY : zz Tryz.prog GQ := zz.plus (zz.plus zQ qK) pS
def Px (x y : Big) : Bool := bif x.neg == y.neg then x.neg else bif leB 0 (cmpL x.l y.l) then x.neg else y.neg
def rh (x y : Big) : Int := bif x.neg == y.neg then zv 1000000000 x.l + zv 1000000000 y.l else bif leB 0 (cmpL x.l y.l) then zv 1000000000 x.l - zv 1000000000 y.l else zv 1000000000 y.l - zv 1000000000 x.l
theorem RG {x y : List Int} (hx : Zp 1000000000 x) (hy : Zp 1000000000 y) (tx : zI x = x) (ty : zI y = y) : (0 ≤ cmpL x y ↔ zv 1000000000 y ≤ zv 1000000000 x) := by
 have e1 : x = zu 1000000000 (zv 1000000000 x).toNat := X0 (b := 1000000000) (by omega) hx tx
 have e2 : y = zu 1000000000 (zv 1000000000 y).toNat := X0 (b := 1000000000) (by omega) hy ty
 have v1 := zG (b := 1000000000) (by omega) hx
 have v2 := zG (b := 1000000000) (by omega) hy
 have c := (OD (b := 1000000000) (by omega) (zv 1000000000 x).toNat (zv 1000000000 y).toNat).1
 rw [← e1, ← e2] at c
 omega
def QS : List AV → Option (List zn × AV)
 | [x_x, x_y] => some ([.b (yt Big x_x), .b (yt Big x_y), .p (Zp 1000000000 (Z4 (α := Big) x_x).l), .p (Zp 1000000000 (Z4 (α := Big) x_y).l), .p (zI (Z4 (α := Big) x_x).l = (Z4 (α := Big) x_x).l), .p (zI (Z4 (α := Big) x_y).l = (Z4 (α := Big) x_y).l), .p ((Z4 (α := Big) x_x).l.length ≤ 1000000000), .p ((Z4 (α := Big) x_y).l.length ≤ 1000000000)], .agg 2 (zw [.b (Px (Z4 (α := Big) x_x) (Z4 (α := Big) x_y)), ZD (zu 1000000000 (rh (Z4 (α := Big) x_x) (Z4 (α := Big) x_y)).toNat)]))
 | _ => none
theorem Lz (x : Big) (y : Big) (hx : Zp 1000000000 x.l) (hy : Zp 1000000000 y.l) (tx : zI x.l = x.l) (ty : zI y.l = y.l) (lx : x.l.length ≤ 1000000000) (ly : y.l.length ≤ 1000000000) :
 let q2 := (xI (Big.l x)); let q1 := (zB Int q2); let q4 := (xI (Big.l y)); let q3 := (zB Int q4); let q6 := (zV q2); let q5 := (∀ (x_1 : Int), List.Mem x_1 q6 → iZ ≤ x_1 ∧ x_1 < iB); let q8 := (zV q4); let q7 := (∀ (x : Int), List.Mem x q8 → iZ ≤ x ∧ x < iB); let q9 := (zu 1000000000 (Int.toNat (rh x y))); let q10 := (zu 1000000000 (Int.toNat (zv
 iB q6 + zv iB q8))); let q11 := (zu 1000000000 (Int.toNat (zv iB q6 - zv iB q8))); let q12 := (zu 1000000000 (Int.toNat (zv iB q8 - zv iB q6))); Zt [AV.agg 2 (zr.enc x), AV.agg 2 (zr.enc y)] → zZ (Big.neg x == Big.neg y) (bF q1 (bF q3 (q5 ∧ q7 ∧ lN q6 ≤ 1000000000 ∧ lN q8 ≤ 1000000000 ∧ 2 = 2 ∧ Big.neg x = Px x y ∧ (false = true → false = true) ∧ 1 = 1 ∧ lN q9 = lN q10 ∧ ∀ (i j : Nat), i < lN q10 → j < 1 → IntKind.i64 =
 .i64 ∧ gD q10 i zr.dflt = gD q9 i zr.dflt))) (bF q1 (bF q3 (q5 ∧ q7 ∧ zZ (leB iZ (cmpL q6 q8)) (bF q1 (bF q3 (q5 ∧ q7 ∧ lN q6 ≤ 1000000000 ∧ lN q8 ≤ 1000000000 ∧ zv iB q8 ≤ zv iB q6 ∧ 2 = 2 ∧ Big.neg x = Px x y ∧ (false = true → false = true) ∧ 1 = 1 ∧ lN q9 = lN q11 ∧ ∀ (i j : Nat), i < lN q11 → j < 1 → kI ∧ gD q11 i zr.dflt = gD q9 i zr.dflt))) (bF q3 (bF q1 (q7 ∧ q5 ∧ lN q8 ≤ 1000000000 ∧
 lN q6 ≤ 1000000000 ∧ zv iB q6 ≤ zv iB q8 ∧ 2 = 2 ∧ Big.neg y = Px x y ∧ (false = true → false = true) ∧ 1 = 1 ∧ lN q9 = lN q12 ∧ ∀ (i j : Nat), i < lN q12 → j < 1 → kI ∧ gD q12 i zr.dflt = gD q9 i zr.dflt)))))) := by
 delta bF xI kI lN gD iZ iB
 dsimp only
 intro hb
 have e0 : (zr.dflt : Int) = 0 := rfl
 simp only [↓yy, ↓Zi, row_one]
 simp only [sS, dS, e0]
 refine zX.2 ⟨fun c => ⟨hx, hy, lx, ly, ?_, fun h => h, ?_, fun i j _ _ => ?_⟩, fun c => ⟨hx, hy, fun h => ⟨hx, hy, lx, ly, (RG hx hy tx ty).1 h, ?_, fun h => h, ?_, fun i j _ _ => ?_⟩, fun h => ⟨hy, hx, ly, lx, ?_, ?_, fun h => h, ?_, fun i j _ _ => ?_⟩⟩⟩
 any_goals (unfold Px; rw [c]; first | rfl | (rw [show leB 0 (cmpL x.l y.l) = true from (ZY _ _).2 h]; rfl) | (rw [show leB 0 (cmpL x.l y.l) = false from Bool.eq_false_iff.2 fun e => by have := (ZY _ _).1 e; omega]; rfl))
 any_goals (unfold rh; rw [c]; first | rfl | (rw [show leB 0 (cmpL x.l y.l) = true from (ZY _ _).2 h]; rfl) | (rw [show leB 0 (cmpL x.l y.l) = false from Bool.eq_false_iff.2 fun e => by have := (ZY _ _).1 e; omega]; rfl))
 have := RG hx hy tx ty
 omega
theorem iW (x : Big) (y : Big) (hx : Zp 1000000000 x.l) (hy : Zp 1000000000 y.l) (tx : zI x.l = x.l) (ty : zI y.l = y.l) (lx : x.l.length ≤ 1000000000) (ly : y.l.length ≤ 1000000000) : zU Tryz.prog [] 100 [Yc x, Yc y] (.agg 2 (zw [.b (Px x y), ZD (zu 1000000000 (rh x y).toNat)])) :=
 zW (T := GQ) (an := .auto) mixed OY (Eq.mp (by kernel_rfl) (Lz x y hx hy tx ty lx ly))
theorem Iy : zp Tryz.prog [] 100 QS := by
 intro xs ps r h hp
 unfold QS at h
 split at h
 ·skip
  rename_i x_x x_y
  cases h
  obtain ⟨q0, q1, q2, q3, q4, q5, q6, q7, -⟩ := ZF hp
  exact weaken (ys := [Yc (Z4 (α := Big) x_x), Yc (Z4 (α := Big) x_y)]) ⟨ZT q0, ZT q1, trivial⟩ (iW (Z4 (α := Big) x_x) (Z4 (α := Big) x_y) q2 q3 q4 q5 q6 q7)
 ·cases h
theorem N8 {x y : Big} (hx : Zp 1000000000 x.l) (hy : Zp 1000000000 y.l) (tx : zI x.l = x.l) (ty : zI y.l = y.l) :
  0 ≤ rh x y ∧ (bif Px x y then - rh x y else rh x y) = y6 x.neg x.l + y6 y.neg y.l := by
 have v1 := zG (b := 1000000000) (by omega) hx
 have v2 := zG (b := 1000000000) (by omega) hy
 have c := RG hx hy tx ty
 unfold Px rh y6
 cases hl : leB 0 (cmpL x.l y.l) with
 | true =>
  rw [ZY, c] at hl
  cases x.neg <;> cases y.neg <;> simp <;> omega
 | false =>
  have hl : ¬ 0 ≤ cmpL x.l y.l := fun e => by rw [(ZY _ _).2 e] at hl; cases hl
  rw [c] at hl
  cases x.neg <;> cases y.neg <;> simp <;> omega
end Go.Te

namespace Go.Te
open Go Go.Sx Go.Proofs Go.Ar
set_option maxRecDepth 100000
set_option maxHeartbeats 4000000
def ZL : OB → List Int
 | .arr _ _ n els => (List.range n).map fun i => AV.int (els i 0)
 | _ => []
theorem gt (l : List Int) : ZL (OB.arr 3 1 l.length fun i x => AV.v (Value.int IntKind.i64 (l.getD i 0))) = l := by
 have e : ((List.range l.length).map fun i => l.getD i 0) = l := by
  apply List.ext_getElem
  ·simp
  ·intro i h1 h2
   rw [List.getElem_map, List.getElem_range, List.getD_eq_getElem?_getD, List.getElem?_eq_getElem h2]
   rfl
 exact e
def TB  : yS :=
 .two .auto (.two (.one (.loop Nat (fun σ z => [(0, .ns (YN (σ.tm 0)) 0 z)]) (fun σ z => []) 0 (fun σ z => z ≤ (ZL (σ.bl (YN (σ.tm 0)))).length ∧ ∀ i, z ≤ i → (ZL (σ.bl (YN (σ.tm 0)))).getD i 0 = 0) (fun σ z => z) .auto)) .auto)
theorem TG {l : List Int} {z : Nat} (h1 : z ≤ l.length) (h2 : ∀ i, z ≤ i → l.getD i 0 = 0) (c : (zg 0 (z : Int) && l.getD ((z : Int) - 1).toNat 0 == 0) = false) : zI l = l.take z := by
 refine WE h1 h2 ?_
 by_cases hz : z = 0
 ·exact .inl hz
 ·refine .inr fun e => ?_
  rw [(zq _ _).2 (by omega), show ((z : Int) - 1).toNat = z - 1 by omega, e] at c
  cases c
theorem TL {l : List Int} {z : Nat} (h2 : ∀ i, z ≤ i → l.getD i 0 = 0) (c : (zg 0 (z : Int) && l.getD ((z : Int) - 1).toNat 0 == 0) = true) : 0 < z ∧ ∀ i, z - 1 ≤ i → l.getD i 0 = 0 := by
 rw [Bool.and_eq_true, beq_iff_eq, zq] at c
 have c2 := c.2
 rw [show ((z : Int) - 1).toNat = z - 1 by omega] at c2
 refine ⟨by omega, fun i hi => ?_⟩
 by_cases e : i = z - 1
 ·rw [e]; exact c2
 ·exact h2 i (by omega)
theorem GA {l m : List Int} {z : Nat} (hz : z ≤ m.length) (h : m.take z = l) : zE (AV.xl false 1 z fun i x => AV.v (Value.int IntKind.i64 (m.getD i 0))) (AV.xl false 1 l.length fun i j => AV.v (Value.int IntKind.i64 (l.getD i 0))) := by
 have hl : z = l.length := by rw [← h, List.length_take]; omega
 rw [← hl]
 refine ⟨fun h => h, rfl, rfl, fun i j hi _ => ?_⟩
 rw [← h]
 show zE (AV.v (Value.int IntKind.i64 (m.getD i 0))) (AV.v (Value.int IntKind.i64 ((m.take z).getD i 0)))
 rw [YH hi]
 exact zT _
noncomputable def Gx : Tb := (T0.plus 147 WS).body Tryz.prog [(177, .auto), (147, TB)]
theorem OS : zz Tryz.prog Gx := zz.body mixed (zz.plus zQ uE) _
structure YE where
 z : Nat
 q : List Int
 r : Int
def jn (a : List Int) (d : Int) : yS :=
 .two .auto (.one (.loop YE (fun σ z => [(0, σ.tm 0), (1, σ.tm 1), (3, .i ((z.z : Int) - 1))]) (fun _ z => [(2, tu z.q), (3, .box 3 1 fun _ => .i z.r)]) 0
  (fun _ z => OR 1000000000 d a z.z z.q z.r) (fun _ z => z.z) .auto))
def JR (a : List Int) (d : Int) : yS :=
 .two .auto (.two .auto (.two .auto (.two (.two .auto (.one (.range (jn a d) .auto .auto))) .auto)))
def sR : List AV → Option (List zn × AV)
 | [x_a, .v (.int .i64 d)] => some ([.b (zB Int x_a), .p (Zp 1000000000 (zV x_a)), .p (0 < d ∧ d ≤ 1000000000), .p ((zV x_a).length ≤ 1000000000)], .tup 2 (zw [ZD (zu 1000000000 ((zv 1000000000 (zV x_a)).toNat / d.toNat)), ZD (zu 1000000000 ((zv 1000000000 (zV x_a)).toNat % d.toNat))]))
 | _ => none
theorem nB (a : List Int) (d : Int) (ha : Zp 1000000000 a) (hd : 0 < d ∧ d ≤ 1000000000) (hl : a.length ≤ 1000000000) :
 let q1 := ((3 = 3 ∧ 1 = 1 ∧ kI ∧ d = d) ∧ 141 = 141 ∧ 1 = 1 ∧ nat_lit 2 = 2 ∧ 0 = 0 ∧ Int.toNat (lZ a) = Int.toNat (lZ a)); let q2 := (xI a); let q13 := (zu 1000000000 (Int.toNat (zv iB a) / Int.toNat d)); let q12 := (xI q13); let q17 := (zu 1000000000 (Int.toNat (zv iB a) % Int.toNat d)); let q16 := (AV.xl false 1 (lN q17) fun
 i j => aI (gD q17 i zr.dflt)); Zt [xI a, aI d] → bF (DB.db (iZ ≤ (lZ a) ∧ (lZ a) ≤ (lZ a) ∧ (↑8 : Int) * (lZ a) ≤ (140737488355328 : Int))) (bF (dK ((lZ a) - iO)) ((∃ (z : YE), (OR iB d a (YE.z z) (YE.q z) (YE.r z) ∧ nat_lit 5 = 5 ∧ (nat_lit 4 = 4 ∧ 0 = 0) ∧ kI ∧ (lZ a) - iO =
 (cI (YE.z z)) - iO) ∧ (((q1 ∧ (3 : TypeId) = 3 ∧ 1 = 1 ∧ lN (YE.q z) = Int.toNat (lZ a) ∧ ∀ (i j : Nat), i < Int.toNat (lZ a) → j < 1 → zE (Z0 (Value.int .i64 iZ) j) (aI (gD (YE.q z) i iZ))) ∧ (3 : TypeId) = 3 ∧ 1 = 1 ∧ kI ∧ iZ = YE.r z) ∧ 141 = 141 ∧ 1 = 1 ∧ zE q2 q2) ∧ lR) ∧ ∀ (z : YE), let q3 := (gD a (Int.toNat ((cI (YE.z z)) - iO)) zr.dflt + YE.r z * iB); let q4 := (Int.tdiv
 q3 d); let q6 := (bF (dK ((cI (YE.z z)) - iO - iO)) (∃ (z' : YE), ((OR iB d a (YE.z z') (YE.q z') (YE.r z') ∧ YE.z z' < YE.z z) ∧ nat_lit 5 = 5 ∧ (nat_lit 4 = 4 ∧ 0 = 0) ∧ kI ∧ (cI (YE.z z)) - iO - iO = (cI (YE.z z')) - iO) ∧ (((q1 ∧ 3 = 3 ∧ 1 = 1 ∧ lN (YE.q z') = lN (YE.q z) ∧ ∀ (i j : Nat), i < lN (YE.q z) → j < 1 → zE (if i = 0 + Int.toNat ((cI (YE.z z)) - iO) ∧ 0 ≤ j ∧ j < 1 then aI q4 else aI (List.getD
 (YE.q z) i iZ)) (aI (gD (YE.q z') i iZ))) ∧ 3 = 3 ∧ 1 = 1 ∧ kI ∧ Int.tmod q3 d = YE.r z') ∧ 141 = 141 ∧ 1 = 1 ∧ zE q2 q2) ∧ lR)); let q5 := ((bF (DB.db (d ≠ iZ)) q6 ∧ bF (DB.db (d ≠ iZ)) q6) ∧ bF (DB.db (d ≠ iZ)) q6); let q9 := (ZL (OB.arr (3 : TypeId) 1 (lN (YE.q z)) fun (i x : Nat) => aI (gD (YE.q z) i iZ))); let q10 := (((q1 ∧ 3 = 3 ∧ 1 = 1 ∧ lN (YE.q z) =
 lN (YE.q z) ∧ ∀ (i j : Nat), i < lN (YE.q z) → j < 1 → kI ∧ gD (YE.q z) i iZ = gD (YE.q z) i iZ) ∧ 3 = 3 ∧ 1 = 1 ∧ kI ∧ YE.r z = YE.r z) ∧ 141 = 141 ∧ 1 = 1 ∧ zE q2 q2); let q8 := (∃ (z_1 : Nat), ((z_1 ≤ lN q9 ∧ ∀ (i : Nat), z_1 ≤ i → gD (ZL (OB.arr (3 : TypeId) 1 (lN (YE.q z)) fun (i x : Nat) => aI (gD (YE.q z) i iZ))) i iZ = iZ) ∧ nat_lit 2 = 2 ∧ 0 = 0 ∧ z_1 = Int.toNat (lZ a)) ∧ q10 ∧ True); let q15 := (zI
 (zV (AV.xl true 1 1 (Sx.rowAt [fun (x : Nat) => aI (YE.r z)])))); let q14 := (xI q15); let q7 := (q8 ∧ ∀ (z_1 : Nat), let q11 := (!zS true (zg iZ (cI z_1)) || zS true (zg iZ (cI z_1))); (z_1 ≤ lN q9 ∧ ∀ (i : Nat), z_1 ≤ i → gD (ZL (OB.arr (3 : TypeId) 1 (lN (YE.q z)) fun (i x : Nat) => aI (gD (YE.q z) i iZ))) i iZ = iZ) → bF q11 (bF q11 (bF (!zS true (zg iZ
 (cI z_1)) || dK ((cI z_1) - iO)) (bF q11 (bF q11 (bF (!zS true (zg iZ (cI z_1)) || DB.db (iZ ≤ (cI z_1) - iO ∧ (cI z_1) - iO < (cI z_1))) (bF q11 (bF q11 (bF (!zg iZ (cI z_1) || zS true (zg iZ (cI z_1))) (zZ (bif zg iZ (cI z_1) then gD (YE.q z) (0 + Int.toNat ((cI z_1) - iO)) iZ == iZ else false) (bF (dK ((cI z_1) - iO)) (bF (DB.db (iZ ≤ (cI z_1) - iO ∧ (cI z_1) - (1 :
 Int) ≤ (cI z_1))) (∃ (z' : Nat), (((z' ≤ lN q9 ∧ ∀ (i : Nat), z' ≤ i → gD (ZL (OB.arr (3 : TypeId) 1 (lN (YE.q z)) fun (i x : Nat) => aI (gD (YE.q z) i iZ))) i iZ = iZ) ∧ z' < z_1) ∧ nat_lit 2 = 2 ∧ 0 = 0 ∧ z' = Int.toNat ((cI z_1) - iO)) ∧ q10 ∧ True))) (j2 ∧ (True ∧ zE (AV.xl false 1 z_1 fun i j => aI (gD (YE.q z) (0 + i) iZ)) q12) ∧ zE q14 q16))))))))))); OR
 iB d a (YE.z z) (YE.q z) (YE.r z) → zZ (leB iZ ((cI (YE.z z)) - iO)) (bF (DB.db (iZ ≤ (cI (YE.z z)) - iO ∧ (cI (YE.z z)) - iO < (lZ a))) (bF (dK (YE.r z * iB)) (zZ (dK q3) (bF (DB.db (d ≠ iZ)) (bF (dK q4) (bF (DB.db (iZ ≤ (cI (YE.z z)) - iO ∧ (cI (YE.z z)) - iO < (cI (Int.toNat (lZ a))))) (q5 ∧ q5 ∧ bF (DB.db (d ≠ iZ)) q6))))
 False))) (q7 ∧ q7 ∧ q8 ∧ ∀ (z_1 : Nat), let q18 := (!zS true (zg iZ (cI z_1)) || zS true (zg iZ (cI z_1))); (z_1 ≤ lN q9 ∧ ∀ (i : Nat), z_1 ≤ i → gD (ZL (OB.arr (3 : TypeId) 1 (lN (YE.q z)) fun (i x : Nat) => aI (gD (YE.q z) i iZ))) i iZ = iZ) → bF q18 (bF q18 (bF (!zS true (zg iZ (cI z_1)) || dK ((cI z_1) - iO)) (bF q18 (bF q18 (bF (!zS true (zg iZ (cI z_1)) || DB.db (iZ ≤ (cI z_1) - (1 :
 Int) ∧ (cI z_1) - iO < (cI z_1))) (bF q18 (bF q18 (bF (!zg iZ (cI z_1) || zS true (zg iZ (cI z_1))) (zZ (bif zg iZ (cI z_1) then gD (YE.q z) (0 + Int.toNat ((cI z_1) - iO)) iZ == iZ else false) (bF (dK ((cI z_1) - iO)) (bF (DB.db (iZ ≤ (cI z_1) - iO ∧ (cI z_1) - iO ≤ (cI z_1))) (∃ (z' : Nat), (((z' ≤ lN q9 ∧ ∀ (i : Nat), z' ≤ i → gD (ZL (OB.arr (3 : TypeId) 1 (lN (YE.q z)) fun (i x : Nat) => AV.v
 (Value.int .i64 (gD (YE.q z) i iZ)))) i iZ = iZ) ∧ z' < z_1) ∧ nat_lit 2 = 2 ∧ 0 = 0 ∧ z' = Int.toNat ((cI z_1) - iO)) ∧ q10 ∧ True))) (j2 ∧ (True ∧ zE (AV.xl false 1 z_1 fun i j => aI (gD (YE.q z) (0 + i) iZ)) q12) ∧ zE q14 q16))))))))))))) := by
 delta bF dK xI lR cI kI j2 lZ lN gD iZ iO iB aI
 dsimp only
 intro hb
 have e0 : (zr.dflt : Int) = 0 := rfl
 simp only [↓yy, ↓Zi, row_one]
 simp only [sS, dS, e0]
 simp only [and_self, gt, implies_true, and_true]
 obtain ⟨d0, d1⟩ := hd
 have va := zG (b := 1000000000) (by omega) ha
 refine ⟨⟨by omega, by omega, by omega⟩, ⟨by omega, by omega⟩, ⟨⟨a.length, List.replicate a.length 0, 0⟩, ⟨.start (by omega) d0 a, rfl⟩, ⟨by simp, fun i j _ hj => vP _ i j hj⟩, rfl⟩, fun z z1 => ⟨fun hz => ?_, fun hz => ?_⟩⟩
 ·have zle := z1.le
  have zl := z1.len
  have R0 := z1.r0
  have R1 := z1.r1
  have hzk : z.z - 1 + 1 = z.z := by omega
  obtain ⟨⟨n0, n1⟩, hs⟩ := (hzk.symm ▸ z1 : OR 1000000000 d a (z.z - 1 + 1) z.q z.r).step (by omega) ha
  have ek : ((z.z : Int) - 1).toNat = z.z - 1 := by omega
  rw [ek]
  have xk := ha.get (by omega) (z.z - 1)
  have q1 := hs.in_.get (by omega) (z.z - 1)
  rw [YO _ _ _ _ (by omega), if_pos rfl] at q1
  generalize a.getD (z.z - 1) 0 + z.r * 1000000000 = N at *
  exact ⟨⟨by omega, by omega⟩, ⟨by omega, by omega⟩, ⟨by omega, by omega⟩, by omega, ⟨by omega, by omega⟩, ⟨by omega, by omega⟩, by omega, ⟨by omega, by omega⟩, ⟨z.z - 1, _, _⟩, ⟨⟨hs, by simp only; omega⟩, by simp only; omega⟩, ⟨by simp, fun i j _ => Sb _ _ _ (by omega) i j⟩, rfl⟩
 ·have zl := z1.len
  have hz0 : z.z = 0 := by have := z1.le; omega
  obtain ⟨D, rfl⟩ : ∃ D : Nat, d = D := ⟨d.toNat, by omega⟩
  obtain ⟨X, hX⟩ : ∃ X : Nat, zv 1000000000 a = X := ⟨(zv 1000000000 a).toNat, by omega⟩
  obtain ⟨t1, _, t3⟩ := (hz0 ▸ z1 : OR 1000000000 D a 0 z.q z.r).end_ (b := 1000000000) (by omega) (by omega) (by omega) X hX
  rw [hX]
  simp only [Int.toNat_natCast]
  refine ⟨⟨a.length, ⟨by omega, fun i hi => WL (by omega)⟩, rfl⟩, fun k ⟨k1, k2⟩ => ⟨fun h => ?_, fun h => ?_, zX.2 ⟨fun c => ?_, fun c => ?_⟩⟩⟩
  ·have := (zq _ _).1 h; exact ⟨by omega, by omega⟩
  ·have := (zq _ _).1 h; exact ⟨by omega, by omega⟩
  ·obtain ⟨c1, c2⟩ := TL k2 c
   exact ⟨⟨by omega, by omega⟩, ⟨by omega, by omega⟩, k - 1, ⟨⟨by omega, c2⟩, by omega⟩, by omega⟩
  ·have ht := TG k1 k2 c
   refine ⟨rfl, GA k1 (ht.symm.trans t1), ?_⟩
   have er : zV (AV.xl true 1 1 fun x j => AV.v (Value.int IntKind.i64 z.r)) = [z.r] := rfl
   rw [er, show zI [z.r] = zu 1000000000 (X % D) from t3]
   exact zT _
theorem LF (a : List Int) (d : Int) (ha : Zp 1000000000 a) (hd : 0 < d ∧ d ≤ 1000000000) (hl : a.length ≤ 1000000000) : zU Tryz.prog [] 176 [ZD a, .i d] (.tup 2 (zw [ZD (zu 1000000000 ((zv 1000000000 a).toNat / d.toNat)), ZD (zu 1000000000 ((zv 1000000000 a).toNat % d.toNat))])) :=
 zW (T := Gx) (an := JR a d) mixed OS (Eq.mp (by kernel_rfl) (nB a d ha hd hl))
theorem KF : zp Tryz.prog [] 176 sR := by
 intro xs ps r h hp
 unfold sR at h
 split at h
 ·skip
  rename_i x_a d
  cases h
  obtain ⟨q0, q1, q2, q3, -⟩ := ZF hp
  exact weaken (ys := [ZD (zV x_a), .i d]) ⟨zd q0, zT _, trivial⟩ (LF (zV x_a) d q1 q2 q3)
 ·cases h
def VA (b u2 v1 v2 : Int) : Nat → Int → Int → Int
 | 0, q, _ => q
 | n + 1, q, r => bif leB b q || (zg r b && zg (r * b + u2) (q * v2)) then (bif leB b (r + v1) then q - 1 else VA b u2 v1 v2 n (q - 1) (r + v1)) else q
def vx (b : Int) (u v : List Int) (j : Nat) : Int :=
 VA b (u.getD (j + v.length - 2) 0) (v.getD (v.length - 1) 0) (v.getD (v.length - 2) 0) ((u.getD (j + v.length) 0 * b + u.getD (j + v.length - 1) 0).tdiv (v.getD (v.length - 1) 0)).toNat
  ((u.getD (j + v.length) 0 * b + u.getD (j + v.length - 1) 0).tdiv (v.getD (v.length - 1) 0)) ((u.getD (j + v.length) 0 * b + u.getD (j + v.length - 1) 0).tmod (v.getD (v.length - 1) 0))
structure xw where
 q : Int
 r : Int
def kS (u v : List Int) (j : Int) : yS :=
 .two .auto (.two .auto (.two .auto (.two .auto (.two (.one (.loop xw (fun σ z => [(0, σ.tm 0), (1, σ.tm 1), (2, σ.tm 2), (7, σ.tm 7), (9, .i z.q), (10, .i z.r)]) (fun σ z => []) 0 (fun σ z => 0 ≤ z.q ∧ z.q ≤ 2000000000 ∧ 0 ≤ z.r ∧ z.r < 1000000000 ∧ VA 1000000000 (u.getD (j.toNat + v.length - 2) 0) (v.getD (v.length - 1) 0) (v.getD (v.length - 2) 0) z.q.toNat z.q z.r = vx 1000000000 u v j.toNat) (fun σ z => z.q.toNat) .auto)) .auto))))
def qQ : List AV → Option (List zn × AV)
 | [x_u, x_v, .v (.int .i64 j)] => some ([.b (zB Int x_u), .b (zB Int x_v), .p (Zp 1000000000 (zV x_u)), .p (Zp 1000000000 (zV x_v)), .p (2 ≤ (zV x_v).length), .p ((zV x_v).length ≤ 1000000000), .p (0 ≤ j ∧ j + (zV x_v).length < (zV x_u).length), .p (0 < (zV x_v).getD ((zV x_v).length - 1) 0), .p ((zV x_u).getD (j.toNat + (zV x_v).length) 0 ≤ (zV x_v).getD ((zV x_v).length - 1) 0)], .i (vx 1000000000 (zV x_u) (zV x_v) j.toNat))
 | _ => none
theorem Lb (u : List Int) (v : List Int) (j : Int) (hu : Zp 1000000000 u) (hv : Zp 1000000000 v) (hn : 2 ≤ v.length) (hl : v.length ≤ 1000000000) (hj : 0 ≤ j ∧ j + v.length < u.length) (h1 : 0 < v.getD (v.length - 1) 0) (hc : u.getD (j.toNat + v.length) 0 ≤ v.getD (v.length - 1) 0) :
 let q2 := (yR .i64 (j + (lZ v))); let q1 := (DB.db q2); let q3 := (Int.toNat (j + (lZ v))); let q4 := (j + (lZ v) - iO); let q5 := (gD u q3 zr.dflt * iB + gD u (Int.toNat q4) zr.dflt); let q6 := (dK ((lZ v) - iO)); let q7 := (DB.db (iZ ≤ (lZ v) - iO ∧ (lZ v) - iO < (lZ v))); let q9 := (Int.toNat ((lZ v) - iO)); let q8 := (DB.db (gD v q9 zr.dflt ≠ (0 :
 Int))); let q10 := (gD v q9 zr.dflt); let q11 := (gD u (Int.toNat j + lN v - 2) iZ); let q12 := (gD v (lN v - 1) iZ); let q13 := (gD v (lN v - 2) iZ); let q14 := (xI u); let q15 := (xI v); let q16 := (kI ∧ (lZ v) = (lZ v)); let q21 := (j + (lZ v) - (2 : Int)); Zt [AV.xl false 1
 (lN u) fun i j => aI (gD u i zr.dflt), xI v, aI j] → bF q1 (bF (DB.db (iZ ≤ j + (lZ v) ∧ j + (lZ v) < (lZ u))) (bF (dK (gD u q3 zr.dflt * iB)) (bF q1 (bF (dK q4) (bF (DB.db (iZ ≤ j + (lZ v) - iO ∧ j + (lZ v) - iO < (lZ u))) (bF (DB.db (yR .i64
 q5)) (bF q6 (bF q7 (bF q8 (bF (dK (Int.tdiv q5 q10)) (bF q6 (bF q7 (bF q8 ((∃ (z : xw), ((iZ ≤ xw.q z ∧ xw.q z ≤ (2000000000 : Int) ∧ iZ ≤ xw.r z ∧ xw.r z < iB ∧ VA iB q11 q12 q13 (Int.toNat (xw.q z)) (xw.q z) (xw.r z) = vx iB u v (Int.toNat j)) ∧ zE q14 q14 ∧ zE q15 q15 ∧ (kI ∧ j = j) ∧ q16 ∧ (kI ∧ Int.tdiv q5 q10 = xw.q z) ∧ kI ∧ Int.tmod q5 q10 = xw.r z) ∧ True) ∧ ∀ (z : xw), let q17 := (!zS false (leB iB
 (xw.q z)) || zS false (leB iB (xw.q z))); let q19 := (zS false (leB iB (xw.q z)) && zS true (zg (xw.r z) iB)); let q18 := (!q19 || zS false (leB iB (xw.q z)) && zS true (zg (xw.r z) iB)); let q20 := (xw.q z * gD v (Int.toNat ((lZ v) - (2 : Int))) zr.dflt); let q22 := (xw.r z * iB + gD u (Int.toNat q21) zr.dflt); let q23 := (xw.r z + gD v q9 zr.dflt); iZ ≤ xw.q z ∧ xw.q z ≤ (2000000000 : Int) ∧ iZ ≤ xw.r z ∧ xw.r z <
 iB ∧ VA iB q11 q12 q13 (Int.toNat (xw.q z)) (xw.q z) (xw.r z) = vx iB u v (Int.toNat j) → bF q17 (zZ q17 (bF q18 (bF (!q19 || dK ((lZ v) - (2 : Int))) (bF q18 (bF q18 (bF (!q19 || DB.db (iZ ≤ (lZ v) - (2 : Int) ∧ (lZ v) - (2 : Int) < (lZ v))) (bF q18 (bF q18 (bF q18 (bF (!q19 || dK q20) (bF q18 (bF (!q19 || dK (xw.r z * iB)) (bF q18 (zZ q18
 (bF (!q19 || DB.db q2) (bF q18 (bF (!q19 || dK q21) (bF q18 (bF q18 (bF (!q19 || DB.db (iZ ≤ j + (lZ v) - (2 : Int) ∧ j + (lZ v) - (2 : Int) < (lZ u))) (bF q18 (bF q18 (bF q18 (bF (!q19 || dK q22) (bF q18 (bF q18 (bF q17 (bF (!zS false (leB iB (xw.q z)) || (!zg (xw.r z) iB || zS false (leB iB (xw.q z)) && zS true (zg (xw.r z) iB))) (bF (!!leB iB (xw.q z) ||
 zS false (leB iB (xw.q z))) (zZ (bif leB iB (xw.q z) then true else bif zg (xw.r z) iB then zg q22 q20 else false) (bF (dK (xw.q z - iO)) (bF q6 (bF q7 (bF (dK q23) (zZ (leB iB q23) (kI ∧ xw.q z - iO = vx iB u v (Int.toNat j)) (∃ (z' : xw), (((iZ ≤ xw.q z' ∧ xw.q z' ≤ (2000000000 : Int) ∧ iZ ≤ xw.r z' ∧ xw.r z' < iB ∧ VA iB q11 q12 q13 (Int.toNat (xw.q z')) (xw.q z')
 (xw.r z') = vx iB u v (Int.toNat j)) ∧ Int.toNat (xw.q z') < Int.toNat (xw.q z)) ∧ zE q14 q14 ∧ zE q15 q15 ∧ (kI ∧ j = j) ∧ q16 ∧ (kI ∧ xw.q z - iO = xw.q z') ∧ kI ∧ xw.r z + gD v q9 zr.dflt = xw.r z') ∧ True)))))) (kI ∧ xw.q z = vx iB u v (Int.toNat j)))))))))))))))))) False)))))))))))))
 False))))))))))))))) := by
 delta bF dK xI kI lZ lN gD iZ iO iB aI
 dsimp only
 intro hb
 have e0 : (zr.dflt : Int) = 0 := rfl
 simp only [↓yy, ↓Zi, row_one]
 simp only [sS, dS, e0]
 have hu1 : u.length ≤ 9223372036854775807 := hb.1.1
 have en : ((v.length : Int) - 1).toNat = v.length - 1 := by omega
 have en2 : ((v.length : Int) - 2).toNat = v.length - 2 := by omega
 have ej : (j + (v.length : Int)).toNat = j.toNat + v.length := by omega
 have ej1 : (j + (v.length : Int) - 1).toNat = j.toNat + v.length - 1 := by omega
 have ej2 : (j + (v.length : Int) - 2).toNat = j.toNat + v.length - 2 := by omega
 rw [en, en2, ej, ej1, ej2]
 have hF : vx 1000000000 u v j.toNat = VA 1000000000 (u.getD (j.toNat + v.length - 2) 0) (v.getD (v.length - 1) 0) (v.getD (v.length - 2) 0) ((u.getD (j.toNat + v.length) 0 * 1000000000 + u.getD (j.toNat + v.length - 1) 0).tdiv (v.getD (v.length - 1) 0)).toNat
  ((u.getD (j.toNat + v.length) 0 * 1000000000 + u.getD (j.toNat + v.length - 1) 0).tdiv (v.getD (v.length - 1) 0)) ((u.getD (j.toNat + v.length) 0 * 1000000000 + u.getD (j.toNat + v.length - 1) 0).tmod (v.getD (v.length - 1) 0)) := rfl
 rw [hF]
 have u0 := hu.get (by omega) (j.toNat + v.length)
 have u1 := hu.get (by omega) (j.toNat + v.length - 1)
 have u2 := hu.get (by omega) (j.toNat + v.length - 2)
 have w1 := hv.get (by omega) (v.length - 1)
 have w2 := hv.get (by omega) (v.length - 2)
 clear hF
 generalize u.getD (j.toNat + v.length) 0 = a0 at *
 generalize u.getD (j.toNat + v.length - 1) 0 = a1 at *
 generalize u.getD (j.toNat + v.length - 2) 0 = a2 at *
 generalize v.getD (v.length - 1) 0 = b1 at *
 generalize v.getD (v.length - 2) 0 = b2 at *
 obtain ⟨e, m0, m1, q0⟩ := js (n := a0 * 1000000000 + a1) (b := b1) (by omega) h1
 have qle : (a0 * 1000000000 + a1).tdiv b1 ≤ 2000000000 := by
  refine Decidable.byContradiction fun hn => ?_
  have t1 : b1 * 2000000001 ≤ b1 * (a0 * 1000000000 + a1).tdiv b1 := Int.mul_le_mul_of_nonneg_left (by omega) (by omega)
  omega
 generalize (a0 * 1000000000 + a1).tdiv b1 = q at *
 generalize (a0 * 1000000000 + a1).tmod b1 = r at *
 obtain ⟨E, hE⟩ : ∃ E, VA 1000000000 a2 b1 b2 q.toNat q r = E := ⟨_, rfl⟩
 rw [hE]
 refine ⟨⟨by omega, by omega⟩, ⟨by omega, by omega⟩, ⟨by omega, by omega⟩, ⟨by omega, by omega⟩, ⟨by omega, by omega⟩, ⟨by omega, by omega⟩, ⟨by omega, by omega⟩, ⟨by omega, by omega⟩, ⟨by omega, by omega⟩, by omega, ⟨by omega, by omega⟩, ⟨by omega, by omega⟩, ⟨by omega, by omega⟩, by omega, ⟨⟨q, r⟩, ⟨q0, qle, m0, by simp only; omega, hE⟩, rfl, rfl⟩, fun ⟨Q, R⟩ ⟨z1, z2, z3, z4, z5⟩ => ?_⟩
 simp only at z1 z2 z3 z4 z5 ⊢
 have p0 : 0 ≤ Q * b2 := Int.mul_nonneg z1 w2.1
 have p1 : Q * b2 ≤ Q * 1000000000 := Int.mul_le_mul_of_nonneg_left (by omega) z1
 refine ⟨fun _ => ⟨by omega, by omega⟩, fun _ => ⟨by omega, by omega⟩, fun _ => ⟨by omega, by omega⟩, fun _ => ⟨by omega, by omega⟩, fun _ => ⟨by omega, by omega⟩, fun _ => ⟨by omega, by omega⟩, fun _ => ⟨by omega, by omega⟩, fun _ => ⟨by omega, by omega⟩, ?_⟩
 refine u7 (by cases leB 1000000000 Q <;> cases zg R 1000000000 <;> rfl) ?_
 refine zX.2 ⟨fun c => ?_, fun c => ?_⟩
 ·have hQ : 0 < Q := by
   rw [Bool.or_eq_true, ZY, Bool.and_eq_true, zq, zq] at c
   rcases c with c | c
   ·omega
   ·refine Decidable.byContradiction fun hn => ?_
    have : Q = 0 := by omega
    rw [this, Int.zero_mul] at c
    omega
  obtain ⟨n, hn⟩ : ∃ n : Nat, Q.toNat = n + 1 := ⟨Q.toNat - 1, by omega⟩
  rw [hn] at z5 ⊢
  unfold VA at z5
  rw [c, cond_true] at z5
  have hn2 : (Q - 1).toNat = n := by omega
  refine ⟨⟨by omega, by omega⟩, ⟨by omega, by omega⟩, ⟨by omega, by omega⟩, ⟨by omega, by omega⟩, fun h => ?_, fun h => ⟨⟨Q - 1, R + b1⟩, ⟨⟨by simp only; omega, by simp only; omega, by simp only; omega, h, ?_⟩, by simp only; omega⟩, rfl, rfl⟩⟩
  ·rw [(ZY _ _).2 h] at z5; exact z5
  ·rw [show leB 1000000000 (R + b1) = false from Bool.eq_false_iff.2 fun e => by have := (ZY _ _).1 e; omega] at z5
   rw [← z5]
   simp only [hn2, cond_false]
 ·rw [← z5]
  cases hQ : Q.toNat with
  | zero => rfl
  | succ n => unfold VA; rw [c]; rfl
theorem jc (u : List Int) (v : List Int) (j : Int) (hu : Zp 1000000000 u) (hv : Zp 1000000000 v) (hn : 2 ≤ v.length) (hl : v.length ≤ 1000000000) (hj : 0 ≤ j ∧ j + v.length < u.length) (h1 : 0 < v.getD (v.length - 1) 0) (hc : u.getD (j.toNat + v.length) 0 ≤ v.getD (v.length - 1) 0) : zU Tryz.prog [] 178 [ZD u, ZD v, .i j] (.i (vx 1000000000 u v j.toNat)) :=
 zW (T := T0) (an := kS u v j) mixed zQ (Eq.mp (by kernel_rfl) (Lb u v j hu hv hn hl hj h1 hc))
theorem jD : zp Tryz.prog [] 178 qQ := by
 intro xs ps r h hp
 unfold qQ at h
 split at h
 ·skip
  rename_i x_u x_v j
  cases h
  obtain ⟨q0, q1, q2, q3, q4, q5, q6, q7, q8, -⟩ := ZF hp
  exact weaken (ys := [ZD (zV x_u), ZD (zV x_v), .i j]) ⟨zd q0, zd q1, zT _, trivial⟩ (jc (zV x_u) (zV x_v) j q2 q3 q4 q5 q6 q7 q8)
 ·cases h
noncomputable def GY : Tb := (T0.plus 155 Vw).body Tryz.prog [(147, TB)]
theorem oB : zz Tryz.prog GY := zz.body mixed (zz.plus zQ Sk) _
def WC (x y : List Int) : List Int := zu 1000000000 (zv 1000000000 x * zv 1000000000 y).toNat
theorem mO (x y : List Int) (hx : Zp 1000000000 x) (hy : Zp 1000000000 y) (hlx : x.length ≤ 1000000000) (hly : y.length ≤ 1000000000) :
 let q1 := ((lZ x) + (lZ y) + iO); let q2 := (xI y); let q3 := (nat_lit 0 = 0 ∧ 0 = 0 ∧ Int.toNat q1 = Int.toNat q1); let q4 := (xI x); let q5 := (kI ∧ (lZ x) = (lZ x)); let q9 := (kI ∧ (lZ y) + iO = (lZ y) + iO); let q13 := (zV q2); Zt [AV.xl false 1 (lN x)
 fun i j => aI (gD x i zr.dflt), xI y] → bF (dK ((lZ x) + (lZ y))) (bF (dK q1) (bF (DB.db (iZ ≤ (lZ x) + (lZ y) + iO ∧ (lZ x) + (lZ y) + iO ≤ (lZ x) + (lZ y) + iO ∧ (↑8 : Int) * q1 ≤ (140737488355328 : Int))) ((∃ (z : yX), ((Wz iB x y (yX.i z) (yX.out z) ∧
 yX.i z ≤ lN x) ∧ zE q2 q2 ∧ q3 ∧ zE q4 q4 ∧ q5 ∧ kI ∧ iZ = (cI (yX.i z))) ∧ (3 : TypeId) = 3 ∧ 1 = 1 ∧ lN (yX.out z) = Int.toNat q1 ∧ ∀ (i j : Nat), i < Int.toNat q1 → j < 1 → zE (Z0 (Value.int .i64 iZ) j) (aI (gD (yX.out z) i iZ))) ∧ ∀ (z : yX), let q6 := (Int.toNat (AV.int (aI (cI (yX.i z))))); let q7 := (kI ∧ (cI (yX.i z)) = (cI (yX.i z))); let q8 := (kI ∧ gD x (Int.toNat (cI (yX.i z))) zr.dflt = gD x (Int.toNat
 (cI (yX.i z))) zr.dflt); let q16 := (ZL (OB.arr (3 : TypeId) 1 (lN (yX.out z)) fun (i x : Nat) => aI (gD (yX.out z) i iZ))); Wz iB x y (yX.i z) (yX.out z) ∧ yX.i z ≤ lN x → zZ (zg (cI (yX.i z)) (lZ x)) (bF (DB.db (iZ ≤ (cI (yX.i z)) ∧ (cI (yX.i z)) < (lZ x))) (bF (dK ((lZ y) + iO)) ((∃ (z_1 : yY), ((MulK iB x y q6 (yY.k z_1) (yY.out z_1) (yY.c z_1) ∧ yY.k z_1 ≤ lN y + 1 ∧
 (yY.k z_1 = lN y + 1 → yY.c z_1 = iZ)) ∧ zE q2 q2 ∧ q3 ∧ q7 ∧ q8 ∧ zE q4 q4 ∧ q5 ∧ q7 ∧ q9 ∧ (kI ∧ iZ = yY.c z_1) ∧ kI ∧ iZ = (cI (yY.k z_1))) ∧ 3 = 3 ∧ 1 = 1 ∧ lN (yY.out z_1) = lN (yX.out z) ∧ ∀ (i j : Nat), i < lN (yX.out z) → j < 1 → kI ∧ gD (yX.out z) i iZ = gD (yY.out z_1) i iZ) ∧ ∀ (z_1 : yY), let q11 := ((cI (yX.i z)) + (cI (yY.k z_1))); let q10 := (dK q11); let q12 := (DB.db (iZ ≤ (cI (yX.i z)) +
 (cI (yY.k z_1)) ∧ (cI (yX.i z)) + (cI (yY.k z_1)) < (cI (Int.toNat q1)))); let q14 := (0 + Int.toNat q11); let q15 := (gD (yY.out z_1) q14 iZ + gD x (Int.toNat (cI (yX.i z))) zr.dflt * gD q13 (Int.toNat (cI (yY.k z_1))) iZ + yY.c z_1); MulK iB x y q6 (yY.k z_1) (yY.out z_1) (yY.c z_1) ∧ yY.k z_1 ≤ lN y + 1 ∧ (yY.k z_1 = lN y + 1 → yY.c z_1 = iZ) → zZ (zg (cI (yY.k z_1)) ((lZ y) + iO)) (bF q10 (bF q12 (bF (zB Int q2) (iZ ≤
 (cI (yY.k z_1)) ∧ bF (dK (gD x (Int.toNat (cI (yX.i z))) zr.dflt * gD q13 (Int.toNat (cI (yY.k z_1))) iZ)) (bF (dK (gD (yY.out z_1) q14 iZ + gD x (Int.toNat (cI (yX.i z))) zr.dflt * gD q13 (Int.toNat (cI (yY.k z_1))) iZ)) (bF (dK q15) (bF q10 (bF (dK (Int.tdiv q15 iB)) (bF q12 (bF (dK ((cI (yY.k z_1)) + iO)) (∃ (z' : yY), (((MulK iB x y q6 (yY.k z') (yY.out z') (yY.c
 z') ∧ yY.k z' ≤ lN y + 1 ∧ (yY.k z' = lN y + 1 → yY.c z' = iZ)) ∧ lN y + 1 - yY.k z' < lN y + 1 - yY.k z_1) ∧ zE q2 q2 ∧ q3 ∧ q7 ∧ q8 ∧ zE q4 q4 ∧ q5 ∧ q7 ∧ q9 ∧ (kI ∧ Int.tdiv q15 iB = yY.c z') ∧ kI ∧ (cI (yY.k z_1)) + iO = (cI (yY.k z'))) ∧ 3 = 3 ∧ 1 = 1 ∧ lN (yY.out z') = lN (yY.out z_1) ∧ ∀ (i j : Nat), i < lN (yY.out z_1) → j < 1 → zE (if i = 0 + Int.toNat q11 ∧ 0 ≤ j ∧ j < 1 then aI (Int.tmod q15 iB) else AV.v
 (Value.int .i64 (gD (yY.out z_1) i iZ))) (aI (gD (yY.out z') i iZ))))))))))))) (bF (dK ((cI (yX.i z)) + iO)) (∃ (z' : yX), (((Wz iB x y (yX.i z') (yX.out z') ∧ yX.i z' ≤ lN x) ∧ lN x - yX.i z' < lN x - yX.i z) ∧ zE q2 q2 ∧ q3 ∧ zE q4 q4 ∧ q5 ∧ kI ∧ (cI (yX.i z)) + iO = (cI (yX.i z'))) ∧ 3 = 3 ∧ 1 = 1 ∧ lN (yX.out z') = lN (yY.out z_1) ∧ ∀ (i j : Nat), i
 < lN (yY.out z_1) → j < 1 → kI ∧ gD (yY.out z_1) i iZ = gD (yX.out z') i iZ))))) ((∃ (z_1 : Nat), ((z_1 ≤ lN q16 ∧ ∀ (i : Nat), z_1 ≤ i → gD (ZL (OB.arr (3 : TypeId) 1 (lN (yX.out z)) fun (i x : Nat) => aI (gD (yX.out z) i iZ))) i iZ = iZ) ∧ nat_lit 0 = 0 ∧ 0 = 0 ∧ z_1 = Int.toNat q1) ∧ 3 = 3 ∧ 1 = 1 ∧ lN (yX.out z) = lN (yX.out z) ∧ ∀ (i j : Nat), i < lN (yX.out z) → j < 1 → kI ∧ gD (yX.out
 z) i iZ = gD (yX.out z) i iZ) ∧ ∀ (z_1 : Nat), let q17 := (!zS true (zg iZ (cI z_1)) || zS true (zg iZ (cI z_1))); (z_1 ≤ lN q16 ∧ ∀ (i : Nat), z_1 ≤ i → gD (ZL (OB.arr (3 : TypeId) 1 (lN (yX.out z)) fun (i x : Nat) => aI (gD (yX.out z) i iZ))) i iZ = iZ) → bF q17 (bF q17 (bF (!zS true (zg iZ (cI z_1)) || dK ((cI z_1) - iO)) (bF q17 (bF q17 (bF (!zS true (zg iZ (cI z_1)) || DB.db (iZ ≤
 (cI z_1) - iO ∧ (cI z_1) - iO < (cI z_1))) (bF q17 (bF q17 (bF (!zg iZ (cI z_1) || zS true (zg iZ (cI z_1))) (zZ (bif zg iZ (cI z_1) then gD (yX.out z) (0 + Int.toNat ((cI z_1) - iO)) iZ == iZ else false) (bF (dK ((cI z_1) - iO)) (bF (DB.db (iZ ≤ (cI z_1) - iO ∧ (cI z_1) - iO ≤ (cI z_1))) (∃ (z' : Nat), (((z' ≤ lN q16 ∧ ∀ (i : Nat), z' ≤ i → gD (ZL (OB.arr (3 : TypeId) 1 (lN (yX.out z))
 fun (i x : Nat) => aI (gD (yX.out z) i iZ))) i iZ = iZ) ∧ z' < z_1) ∧ nat_lit 0 = 0 ∧ 0 = 0 ∧ z' = Int.toNat ((cI z_1) - iO)) ∧ 3 = 3 ∧ 1 = 1 ∧ lN (yX.out z) = lN (yX.out z) ∧ ∀ (i j : Nat), i < lN (yX.out z) → j < 1 → kI ∧ gD (yX.out z) i iZ = gD (yX.out z) i iZ))) (3 = 3 ∧ 1 = 1 ∧ z_1 = lN (WC x y) ∧ ∀ (i j : Nat), i < lN (WC x y) → j < 1 → kI ∧ gD (yX.out z) i iZ = gD (WC x y) i (0 :
 Int))))))))))))))) := by
 delta bF dK xI cI kI lZ lN gD iZ iO iB aI
 dsimp only
 intro hb
 have e0 : (zr.dflt : Int) = 0 := rfl
 simp only [↓yy, ↓Zi, row_one]
 simp only [sS, dS, e0, gt, implies_true, and_true]
 have en : ((x.length : Int) + (y.length : Int) + 1).toNat = x.length + y.length + 1 := by omega
 rw [en]
 refine ⟨⟨by omega, by omega⟩, ⟨by omega, by omega⟩, ⟨by omega, Int.le_refl _, by omega⟩, ⟨⟨0, List.replicate (x.length + y.length + 1) 0⟩, ⟨⟨.zero_ (by omega) _ _, Nat.zero_le _⟩, rfl⟩, by simp, fun i j _ hj => vP _ i j hj⟩, fun z ⟨z1, z2⟩ => ⟨fun hz => ⟨⟨by omega, hz⟩, ⟨by omega, by omega⟩, ⟨⟨0, 0, z.out⟩, ⟨⟨z1.start (by omega), Nat.zero_le _, fun h => rfl⟩, rfl, rfl⟩, rfl, fun _ _ _ _ => rfl⟩, fun w ⟨w1, w2, w3⟩ => ⟨fun hk0 => ?_, fun hk0 => ?_⟩⟩, fun hz => ?_⟩⟩
 ·have hz' : z.i < x.length := by omega
  have w4 := w1.len
  have hk : w.k ≤ y.length := by omega
  have ek : ((z.i : Int) + (w.k : Int)).toNat = z.i + w.k := by omega
  rw [ek]
  obtain ⟨⟨n0, n1⟩, hs⟩ := w1.step (by omega) hx hy hz' hk
  have g1 := hx.get (by omega) z.i
  have g2 := hy.get (by omega) w.k
  have g3 := w1.in_.get (by omega) (z.i + w.k)
  have c0 := w1.c0
  have c1 := w1.c1
  have p0 : 0 ≤ x.getD z.i 0 * y.getD w.k 0 := Int.mul_nonneg g1.1 g2.1
  have d0 := hs.c0
  have d1 := hs.c1
  refine ⟨⟨by omega, by omega⟩, ⟨by omega, by omega⟩, by omega, ⟨by omega, by omega⟩, ⟨by omega, by omega⟩, ⟨by omega, by omega⟩, ⟨by omega, by omega⟩, ⟨by omega, by omega⟩, ⟨by omega, by omega⟩, ⟨by omega, by omega⟩, ⟨w.k + 1, _, _⟩, ⟨⟨⟨hs, by simp only; omega, fun h => ?_⟩, by simp only; omega⟩, rfl, rfl⟩, by simp, fun i j _ => Sb _ _ _ (by omega) i j⟩
  have hk' : w.k = y.length := by simp only at h; omega
  have := (hk' ▸ w1 : MulK 1000000000 x y z.i y.length w.out w.c).last (by omega)
  rw [← hk'] at this
  exact this
 ·have c0 := w1.c0
  have hc := w3 (by omega)
  exact ⟨⟨by omega, by omega⟩, ⟨z.i + 1, w.out⟩, ⟨⟨⟨w1.fin (by omega) w2 hc, by simp only; omega⟩, by simp only; omega⟩, rfl⟩, rfl, fun _ _ _ _ => rfl⟩
 ·have hz' : z.i = x.length := by omega
  have zl := z1.len
  have he := (hz' ▸ z1 : Wz 1000000000 x y x.length z.out).end_ (b := 1000000000) (by omega)
  refine ⟨⟨x.length + y.length + 1, ⟨by omega, fun i hi => WL (by omega)⟩, rfl⟩, fun k ⟨k1, k2⟩ => ⟨fun h => ?_, fun h => ?_, zX.2 ⟨fun c => ?_, fun c => ?_⟩⟩⟩
  ·have := (zq _ _).1 h; exact ⟨by omega, by omega⟩
  ·have := (zq _ _).1 h; exact ⟨by omega, by omega⟩
  ·obtain ⟨c1, c2⟩ := TL k2 c
   exact ⟨⟨by omega, by omega⟩, ⟨by omega, by omega⟩, k - 1, ⟨⟨by omega, c2⟩, by omega⟩, by omega⟩
  ·have ht := TG k1 k2 c
   have hp : z.out.take k = WC x y := ht.symm.trans he
   have hkl : k = (WC x y).length := by rw [← hp, List.length_take]; omega
   exact ⟨hkl, fun i j hi _ => by rw [← hp, YH (by omega)]⟩
theorem Lt {x y : List Int} (hx : Zp 1000000000 x) (hy : Zp 1000000000 y) (hlx : x.length ≤ 1000000000) (hly : y.length ≤ 1000000000) : yq Tryz.prog [] 113 [ZD x, ZD y] 3 1 (WC x y).length (fun i _ => .i ((WC x y).getD i 0)) :=
 qY mixed oB (Eq.mp (by kernel_rfl) (mO x y hx hy hlx hly) : sd Tryz.prog GY 113 (sZ x y) [ZD x, ZD y] 3 1 (WC x y).length (fun i _ => .i ((WC x y).getD i 0)))
def s8 : List AV → Option (List zn × TypeId × Nat × Nat × (Nat → Nat → AV))
 | [x, y] => some ([.b (zB Int x), .b (zB Int y), .p (Zp 1000000000 (zV x)), .p (Zp 1000000000 (zV y)), .p ((zV x).length ≤ 1000000000), .p ((zV y).length ≤ 1000000000)], 3, 1, (WC (zV x) (zV y)).length, fun i _ => .i ((WC (zV x) (zV y)).getD i 0))
 | _ => none
theorem Ku : tX Tryz.prog [] 113 s8 := by
 intro xs ps ty sz len els h hp
 unfold s8 at h
 split at h
 ·rename_i x y
  cases h
  have q0 : zB Int x = true := hp (.b (zB Int x)) (by simp)
  have q1 : zB Int y = true := hp (.b (zB Int y)) (by simp)
  have q2 : Zp 1000000000 (zV x) := hp (.p (Zp 1000000000 (zV x))) (by simp)
  have q3 : Zp 1000000000 (zV y) := hp (.p (Zp 1000000000 (zV y))) (by simp)
  have q4 : (zV x).length ≤ 1000000000 := hp (.p ((zV x).length ≤ 1000000000)) (by simp)
  have q5 : (zV y).length ≤ 1000000000 := hp (.p ((zV y).length ≤ 1000000000)) (by simp)
  exact kw (ys := [ZD (zV x), ZD (zV y)]) ⟨zd q0, zd q1, trivial⟩ (Lt q2 q3 q4 q5)
 ·cases h
end Go.Te
