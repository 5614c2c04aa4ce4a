/- integer: long division. -/
import Derived.Test.YtdkpceodckdcfaaGreatDoorTeIf
set_option linter.unusedSimpArgs false
set_option linter.unusedVariables false
namespace Go.Te
open Go Go.Sx Go.Proofs Go.Ar
set_option maxRecDepth 100000
set_option maxHeartbeats 4000000
structure TkS where
  i : Nat
  c : Int
  w : List Int
def itake_an  : Ann :=
  .two .auto (.two .auto (.two (.two .auto (.one (.loop TkS (fun σ z => [(0, σ.tm 0), (1, σ.tm 1), (2, σ.tm 2), (3, σ.tm 3), (14, σ.tm 14), (9, .i z.c), (15, .i (z.i : Int))]) (fun σ z => [(blkAt (σ.tm 0), iArr z.w)]) 0 (fun σ z => TakI 1000000000 (obInts (σ.bl (blkAt (σ.tm 0)))) (obInts (σ.bl (blkAt (σ.tm 1)))) (AV.int (σ.tm 2)).toNat (AV.int (σ.tm 3)) z.i z.w z.c ∧ z.i ≤ (obInts (σ.bl (blkAt (σ.tm 1)))).length + 1) (fun σ z => (obInts (σ.bl (blkAt (σ.tm 1)))).length + 1 - z.i) .auto))) .auto))
def irest_an  : Ann :=
  .two .auto (.two .auto (.two (.two .auto (.one (.loop TkS (fun σ z => [(0, σ.tm 0), (1, σ.tm 1), (2, σ.tm 2), (3, σ.tm 3), (14, σ.tm 14), (9, .i z.c), (15, .i (z.i : Int))]) (fun σ z => [(blkAt (σ.tm 0), iArr z.w)]) 0 (fun σ z => RstI 1000000000 (obInts (σ.bl (blkAt (σ.tm 0)))) (obInts (σ.bl (blkAt (σ.tm 1)))) (AV.int (σ.tm 2)).toNat (AV.int (σ.tm 3)) z.i z.w z.c ∧ z.i ≤ (obInts (σ.bl (blkAt (σ.tm 1)))).length + 1) (fun σ z => (obInts (σ.bl (blkAt (σ.tm 1)))).length + 1 - z.i) .auto))) .auto))
noncomputable def Tdv0 : Tb := (((((T0.plus 212 itrim_t).plus 237 ilimb_t).plus 208 icmp_t).plus 253 iest_t).plus 252 idivS_t).plusF 203 itimF_t
theorem Tdv0_sound : TbSound Tryz.prog Tdv0 := TbSound.plusF (TbSound.plus (TbSound.plus (TbSound.plus (TbSound.plus (TbSound.plus tb0_sound itrim_T) ilimb_T) icmp_T) iest_T) idivS_T) itimF_T
noncomputable def Tdv : Tb := Tdv0.body Tryz.prog [(239, .auto), (254, itake_an), (255, irest_an)]
theorem Tdv_sound : TbSound Tryz.prog Tdv := TbSound.body mixed Tdv0_sound _
structure DvP where
  j : Nat
  q : List Int
  u : List Int
def inBox (σ : Sig) (k : Nat) : Nat :=
  match σ.bl k with
  | .box _ _ cs => blkAt (cs 0)
  | _ => 0
def idv_lp (x : List Int) : Ann := .loop Nat (fun σ z => [(0, σ.tm 0), (4, σ.tm 4), (6, σ.tm 6), (7, σ.tm 7), (8, σ.tm 8), (9, σ.tm 9), (61, σ.tm 61)])
  (fun σ z => [(4, .box 57 1 fun _ => .ns σ.nb 0 ((obInts (σ.bl (inBox σ 4))).length + z)), (inBox σ 4, .dead), (σ.nb, iArr (obInts (σ.bl (inBox σ 4)) ++ List.replicate z 0))]) 1
  (fun σ z => z = 0 ∨ (obInts (σ.bl (inBox σ 4))).length + z ≤ x.length + 1) (fun σ z => x.length + 1 - (obInts (σ.bl (inBox σ 4))).length - z) .auto
def idv_in (V : Int) : Ann := .loop Int (fun σ z => [(4, σ.tm 4), (6, σ.tm 6), (7, σ.tm 7), (8, σ.tm 8), (9, σ.tm 9), (10, .i z)]) (fun _ _ => []) 0
  (fun σ z => 0 ≤ z ∧ z ≤ 2000000000 ∧ valL 1000000000 ((obInts (σ.bl (inBox σ 4))).drop (AV.int (σ.tm 9)).toNat) < (z + 1) * V) (fun σ z => z.toNat) .auto
def idv_it (A V : Int) (n m : Nat) : Ann :=
  .two .auto (.one (.loop DvP (fun σ z => [(0, σ.tm 0), (1, σ.tm 1), (3, .i ((z.j : Int) - 1))]) (fun σ z => [(inBox σ 0, iArr z.q), (inBox σ 4, iArr z.u)]) 0
    (fun _ z => DivJ 1000000000 A V n m z.j z.q z.u ∧ z.j ≤ m) (fun _ z => z.j) .auto))
def idv_an (x : List Int) (A V : Int) (n m : Nat) : Ann :=
  .two .auto (.two .auto (.two .auto (.two .auto (.two .auto (.two (.one (idv_lp x)) (.two .auto (.two (.two .auto (.one (.range (idv_it A V n m) .auto (.one (.two .auto (.two (.one (idv_in V)) .auto)))))) .auto)))))))
def dvF (y : List Int) : Int := (1000000000 : Int).tdiv (y.getD (y.length - 1) 0 + 1)
theorem getD_snocI (l : List Int) (v : Int) (i : Nat) (h : i < l.length + 1) : (l ++ [v]).getD i 0 = if i < l.length then l.getD i 0 else v := by
  rw [List.getD_eq_getElem?_getD, List.getElem?_append]
  by_cases hi : i < l.length
  · rw [if_pos hi, if_pos hi, ← List.getD_eq_getElem?_getD]
  · rw [if_neg hi, if_neg hi, show i - l.length = 0 by omega]; rfl
theorem obI1 (l : List Int) (v : Int) : obInts (OB.arr 3 1 (l.length + 1) fun a b => if a < l.length then AV.v (Value.int IntKind.i64 (l.getD a 0)) else AV.v (Value.int IntKind.i64 v)) = l ++ [v] := by
  have e : ((List.range (l.length + 1)).map fun i => AV.int (if i < l.length then AV.v (Value.int IntKind.i64 (l.getD i 0)) else AV.v (Value.int IntKind.i64 v))) = l ++ [v] := by
    apply List.ext_getElem
    · simp
    · intro i h1 h2
      rw [List.getElem_map, List.getElem_range]
      have h3 : i < l.length + 1 := by simpa using h2
      have e2 : (l ++ [v])[i] = (l ++ [v]).getD i 0 := by rw [List.getD_eq_getElem?_getD, List.getElem?_eq_getElem h2]; rfl
      rw [e2, getD_snocI l v i h3]
      split <;> rfl
  exact e
theorem int1 (r : Int) : intsOf (AV.xl true 1 1 fun x j => AV.v (Value.int IntKind.i64 r)) = [r] := rfl
theorem estR_ok {b : Int} {k : Nat} {u0 u1 u2 v1 v2 W V : Int} (h : EstC b k u0 u1 u2 v1 v2 W V) (hW : W < b * V) (hV : 0 < V) : ∀ (n : Nat) (q r : Int), EstI b (u0 * b + u1) v1 W V q r → ∃ r', EstI b (u0 * b + u1) v1 W V (estR b u2 v1 v2 n q r) r'
  | 0, q, r, hi => ⟨r, hi⟩
  | n + 1, q, r, hi => by
    unfold estR
    cases hc : (leB b q || (ltB r b && ltB (r * b + u2) (q * v2))) with
    | false => exact ⟨r, hi⟩
    | true =>
      rw [Bool.or_eq_true, leB_iff, Bool.and_eq_true, ltB_iff, ltB_iff] at hc
      obtain ⟨_, hs⟩ := h.step hi hW hV (hc.imp id fun x => x.2)
      simp only [cond_true]
      cases leB b (r + v1) with
      | true => exact ⟨_, hs⟩
      | false => exact estR_ok h hW hV n _ _ hs
theorem estF_ok {A V : Int} {v u q : List Int} {m j : Nat} (hv : InL 1000000000 v) (hV : valL 1000000000 v = V) (hn : 2 ≤ v.length) (h1 : 0 < v.getD (v.length - 1) 0) (hj : j < m) (h : DivJ 1000000000 A V v.length m (j + 1) q u) :
    (0 ≤ estF 1000000000 u v j ∧ estF 1000000000 u v j ≤ 2000000000 ∧ valL 1000000000 (u.drop j) < (estF 1000000000 u v j + 1) * V) ∧ u.getD (j + v.length) 0 ≤ v.getD (v.length - 1) 0 := by
  obtain ⟨k, hk⟩ : ∃ k, v.length = k + 2 := ⟨v.length - 2, by omega⟩
  have hc := h.est (by omega) hv hV hk (by rw [show k + 1 = v.length - 1 by omega]; exact h1) hj
  obtain ⟨w0, w1⟩ := h.win (by omega) (by omega) hj
  have hV0 : 0 < V := by
    refine Decidable.byContradiction fun hn => ?_
    have : 1000000000 * V ≤ 0 := by omega
    omega
  obtain ⟨r', hr⟩ := estR_ok hc w1 hV0 ((u.getD (j + v.length) 0 * 1000000000 + u.getD (j + v.length - 1) 0).tdiv (v.getD (v.length - 1) 0)).toNat _ _ hc.start
  have hF : estF 1000000000 u v j = estR 1000000000 (u.getD (j + k) 0) (v.getD (k + 1) 0) (v.getD k 0) ((u.getD (j + v.length) 0 * 1000000000 + u.getD (j + v.length - 1) 0).tdiv (v.getD (v.length - 1) 0)).toNat
      ((u.getD (j + (k + 2)) 0 * 1000000000 + u.getD (j + (k + 1)) 0).tdiv (v.getD (k + 1) 0)) ((u.getD (j + (k + 2)) 0 * 1000000000 + u.getD (j + (k + 1)) 0).tmod (v.getD (k + 1) 0)) := by
    unfold estF
    rw [hk, show j + (k + 2) - 2 = j + k by omega, show j + (k + 2) - 1 = j + (k + 1) by omega, show k + 2 - 1 = k + 1 by omega, show k + 2 - 2 = k by omega]
  rw [← hF] at hr
  have := hr.le
  have a0 := hc.hu0.2
  rw [hk, show k + 2 - 1 = k + 1 by omega]
  exact ⟨⟨hr.q0, by omega, hr.lt⟩, a0⟩
theorem prL_val {x : List Int} (hx : InL 1000000000 x) {f : Int} (hf : 0 ≤ f) : prL x [f] = limbs 1000000000 (valL 1000000000 x * f).toNat ∧ valL 1000000000 (prL x [f]) = valL 1000000000 x * f ∧ InL 1000000000 (prL x [f]) := by
  have v0 := valL_nonneg (b := 1000000000) (by omega) hx
  have e : prL x [f] = limbs 1000000000 (valL 1000000000 x * f).toNat := by unfold prL; rw [val1]
  refine ⟨e, ?_, by rw [e]; exact limbs_in (b := 1000000000) (by omega) _⟩
  rw [e, show valL 1000000000 (limbs 1000000000 (valL 1000000000 x * f).toNat) = ((valL 1000000000 x * f).toNat : Int) from limbs_val (b := 1000000000) (by omega) _, Int.toNat_of_nonneg (Int.mul_nonneg v0 hf)]
theorem dv_facts {y : List Int} (hy : InL 1000000000 y) (ty : trimL y = y) (hn : y.length ≠ 0) :
    0 < dvF y ∧ dvF y ≤ 500000000 ∧ (prL y [dvF y]).length = y.length ∧ InL 1000000000 (prL y [dvF y]) ∧ valL 1000000000 (prL y [dvF y]) = valL 1000000000 y * dvF y ∧ 0 < (prL y [dvF y]).getD (y.length - 1) 0 ∧
    (1000000000 : Int) ^ (y.length - 1) ≤ valL 1000000000 y * dvF y ∧ 0 < valL 1000000000 y := by
  have g := hy.get (by omega) (y.length - 1)
  have g1 : y.getD (y.length - 1) 0 ≠ 0 := (trim_last ty).resolve_left hn
  have hF : dvF y = (1000000000 : Int).tdiv (y.getD (y.length - 1) 0 + 1) := rfl
  obtain ⟨e, m0, m1, d0⟩ := tdm (n := 1000000000) (b := y.getD (y.length - 1) 0 + 1) (by omega) (by omega)
  rw [← hF] at e d0
  have ee : y = limbs 1000000000 (valL 1000000000 y).toNat := limbs_eq (b := 1000000000) (by omega) hy ty
  have y0 := valL_nonneg (b := 1000000000) (by omega) hy
  have t1 := take_lt (b := 1000000000) (by omega) hy (y.length - 1)
  have e3 : valL 1000000000 y = valL 1000000000 (y.take (y.length - 1)) + 1000000000 ^ (y.length - 1) * y.getD (y.length - 1) 0 := by
    rw [← valL_takeB, List.take_of_length_le (by omega)]
  have pp : (0 : Int) < 1000000000 ^ (y.length - 1) := Int.pow_pos (by omega)
  have hpow : (1000000000 : Int) ^ y.length = 1000000000 ^ (y.length - 1) * 1000000000 := by
    obtain ⟨n, hn'⟩ : ∃ n, y.length = n + 1 := ⟨y.length - 1, by omega⟩
    rw [hn', show n + 1 - 1 = n by omega]
    exact Int.pow_succ _ _
  generalize dvF y = f at *
  generalize y.getD (y.length - 1) 0 = t at *
  have f1 : 0 < f := by
    refine Decidable.byContradiction fun hf => ?_
    have : f = 0 := by omega
    subst this
    omega
  have f2 : f ≤ 500000000 := by
    have : 2 * f ≤ (t + 1) * f := Int.mul_le_mul_of_nonneg_right (by omega) (by omega)
    omega
  obtain ⟨p1, p2, p3⟩ := prL_val hy (f := f) (by omega)
  have y1 : (1000000000 : Int) ^ (y.length - 1) ≤ valL 1000000000 y := by
    have : (1000000000 : Int) ^ (y.length - 1) * 1 ≤ 1000000000 ^ (y.length - 1) * t := Int.mul_le_mul_of_nonneg_left (by omega) (by omega)
    omega
  have yf : valL 1000000000 y ≤ valL 1000000000 y * f := by
    have : valL 1000000000 y * 1 ≤ valL 1000000000 y * f := Int.mul_le_mul_of_nonneg_left (by omega) (by omega)
    omega
  have yu : valL 1000000000 y * f < 1000000000 ^ y.length := by
    have a1 : valL 1000000000 y * f < (1000000000 ^ (y.length - 1) * (t + 1)) * f := Int.mul_lt_mul_of_pos_right (by rw [Int.mul_add]; omega) f1
    have a2 : (1000000000 : Int) ^ (y.length - 1) * ((t + 1) * f) ≤ 1000000000 ^ (y.length - 1) * 1000000000 := Int.mul_le_mul_of_nonneg_left (by omega) (by omega)
    rw [hpow]
    rw [Int.mul_assoc] at a1
    omega
  have hlen : (prL y [f]).length = y.length := by
    refine Nat.le_antisymm ?_ ?_
    · rw [p1]
      refine limbs_len_le (b := 1000000000) (by omega) ?_
      rw [Int.toNat_of_nonneg (by omega)]
      exact yu
    · have := limbs_len_mono (b := 1000000000) (m := (valL 1000000000 y).toNat) (n := (valL 1000000000 y * f).toNat) (by omega) (by omega)
      rw [← ee, ← p1] at this
      exact this
  refine ⟨f1, f2, hlen, p3, p2, ?_, by omega, by omega⟩
  have g2 := p3.get (by omega) (y.length - 1)
  have := limbs_last (b := 1000000000) (n := (valL 1000000000 y * f).toNat) (by omega) (by omega)
  rw [← p1, hlen] at this
  omega
theorem zeros_getD {P : List Int} {z i : Nat} (h : P.length ≤ i) : (P ++ [0] ++ List.replicate z 0).getD i 0 = 0 := by
  rw [List.append_assoc, List.getD_eq_getElem?_getD, List.getElem?_append_right h]
  have : [(0 : Int)] ++ List.replicate z 0 = List.replicate (z + 1) 0 := rfl
  rw [this, List.getElem?_replicate]
  split <;> rfl
theorem dv_start {P : List Int} {n m z : Nat} {V : Int} (hP : InL 1000000000 P) (hn : 0 < n) (hl : P.length + 1 + z = m + n) (hV : (1000000000 : Int) ^ (n - 1) ≤ V) :
    valL 1000000000 ((P ++ [0] ++ List.replicate z 0).drop m) < V ∧ valL 1000000000 (P ++ [0] ++ List.replicate z 0) = valL 1000000000 P ∧ InL 1000000000 (P ++ [0] ++ List.replicate z 0) ∧ (P ++ [0] ++ List.replicate z 0).length = m + n := by
  have hU : InL 1000000000 (P ++ [0] ++ List.replicate z 0) := (hP.app (.one (by omega) (by omega))).app (.zeros (by omega) _)
  refine ⟨?_, ?_, hU, by simp; omega⟩
  · rw [valL_all (n := n - 1) fun i hi => by rw [getD_drop']; exact zeros_getD (by omega)]
    have := (take_lt (b := 1000000000) (by omega) (hU.drop m) (n - 1)).2
    omega
  · rw [List.append_assoc, valL_app, show [(0 : Int)] ++ List.replicate z 0 = List.replicate (z + 1) 0 from rfl, valL_zeros, Int.mul_zero, Int.add_zero]
theorem slB {l : List Int} {n : Nat} (h : n = l.length) : slOk Int (AV.xl false 1 n fun i j => AV.v (Value.int IntKind.i64 (l.getD i 0))) = true ∧ intsOf (AV.xl false 1 n fun i j => AV.v (Value.int IntKind.i64 (l.getD i 0))) = l := by
  subst h
  exact ⟨okIn _ l, deI _ l⟩
def idivL_t : List AV → Option (List Cond × AV)
  | [x_x, x_y] => some ([.b (slOk Int x_x), .b (slOk Int x_y), .p (InL 1000000000 (intsOf x_x)), .p (InL 1000000000 (intsOf x_y)), .p (trimL (intsOf x_x) = (intsOf x_x)), .p (trimL (intsOf x_y) = (intsOf x_y)), .p ((intsOf x_y).length ≠ 0), .p ((intsOf x_x).length ≤ 100000000), .p ((intsOf x_y).length ≤ 100000000)], .tup 2 (listFn [slE (limbs 1000000000 ((valL 1000000000 (intsOf x_x)).toNat / (valL 1000000000 (intsOf x_y)).toNat)), slE (limbs 1000000000 ((valL 1000000000 (intsOf x_x)).toNat % (valL 1000000000 (intsOf x_y)).toNat))]))
  | _ => none
theorem idivL_vc (x : List Int) (y : List Int) (hx : InL 1000000000 x) (hy : InL 1000000000 y) (tx : trimL x = x) (ty : trimL y = y) (hn : y.length ≠ 0) (hlx : x.length ≤ 100000000) (hly : y.length ≤ 100000000) :
 let q2 := (AV.xl false 1 (List.length x) fun i j => AV.v (Value.int .i64 (List.getD x i Enc.dflt))); let q1 := (slOk Int q2); let q4 := (AV.xl false 1 (List.length y) fun i j => AV.v (Value.int .i64 (List.getD y i Enc.dflt))); let q3 := (slOk Int q4); let q6 := (intsOf q2); let q5 := (∀ (x_1 : Int), List.Mem x_1 q6 → (0 : Int) ≤ x_1 ∧ x_1 < (1000000000 : Int)); let q8 := (intsOf q4); let q7 := (∀ (x : Int), List.Mem x q8 → (0 : Int) ≤ x ∧ x < (1000000000 : Int)); let q9 := (limbs 1000000000 (Int.toNat (valL (1000000000 : Int) x) / Int.toNat (valL (1000000000 : Int) y))); let q11 := (limbs
 1000000000 (Int.toNat (valL (1000000000 : Int) x) % Int.toNat (valL (1000000000 : Int) y))); let q10 := (AV.xl false 1 (List.length q11) fun i j => AV.v (Value.int .i64 (List.getD q11 i Enc.dflt))); let q13 := (valL (1000000000 : Int) q6); let q12 := (limbs 1000000000 (Int.toNat q13 / Int.toNat (List.getD y 0 Enc.dflt))); let q14 := (AV.xl false 1 (List.length q9) fun i j => AV.v (Value.int .i64 (List.getD q9 i Enc.dflt))); let q15 := (limbs 1000000000 (Int.toNat q13 % Int.toNat (List.getD y 0 Enc.dflt))); let q17 := (Int.toNat ((↑(List.length y) : Int) - (1 : Int))); let q16 := (List.getD y
 q17 Enc.dflt + (1 : Int)); let q18 := (Int.tdiv (1000000000 : Int) q16); let q20 := (Value.int .i64 q18); let q19 := (∀ (x : Int), List.Mem x (intsOf (AV.xl true 1 1 (Sx.rowAt [fun (x : Nat) => AV.v q20]))) → (0 : Int) ≤ x ∧ x < (1000000000 : Int)); let q21 := (intsOf (AV.xl true 1 1 (Sx.rowAt [fun (x : Nat) => AV.v q20]))); let q23 := (prL q6 q21); let q22 := (List.length q23 + 1); let q25 := (OB.arr 3 1 q22 fun (a b : Nat) => if a < List.length q23 then AV.v (Value.int .i64 (List.getD q23 a (0 : Int))) else Sx.rowAt [fun (x : Nat) => AV.v (Value.int .i64 (0 : Int))] (a - List.length q23) b);
 let q24 := (obInts q25); let q26 := (IntKind.i64 = .i64 ∧ Int.tdiv (1000000000 : Int) q16 = Int.tdiv (1000000000 : Int) q16); let q28 := (prL q8 q21); let q27 := ((((57 = 57 ∧ 1 = 1 ∧ Value.slice (Non Addr) 0 0 = Array.getD (Value.cells (Value.slice (Non Addr) 0 0)) (nat_lit 0) undef) ∧ True) ∧ True) ∧ 3 = 3 ∧ 1 = 1 ∧ List.length q28 = List.length q28 ∧ ∀ (i j : Nat), i < List.length q28 → j < 1 → IntKind.i64 = .i64 ∧ List.getD q28 i (0 : Int) = List.getD q28 i (0 : Int)); let q36 := (List.length q28); let q35 := (↑q36 : Int); let q39 := (max (List.length (prL x [dvF y]) + 1) (List.length x +
 1) - List.length y); let q45 := (AV.xl false 1 q36 fun i j => AV.v (Value.int .i64 (List.getD q28 (0 + i) (0 : Int)))); let q44 := (slOk Int q45); let q48 := (intsOf q45); let q49 := (List.length q48 - 1); let q55 := (q35 + (1 : Int)); let q54 := (DB.db (inK .i64 q55)); let q56 := (obInts (OB.arr (3 : TypeId) 1 q36 fun (i x : Nat) => AV.v (Value.int .i64 (List.getD (prL q8 (intsOf (AV.xl true 1 1 (Sx.rowAt [fun (x : Nat) => AV.v q20])))) i (0 : Int))))); let q58 := (nat_lit 3 = 3 ∧ 0 = 0 ∧ List.length q28 = List.length q28); let q59 := (IntKind.i64 = .i64 ∧ q35 + (1 : Int) = q35 + (1 : Int));
 bndL [AV.xl false 1 (List.length x) fun i j => AV.v (Value.int .i64 (List.getD x i Enc.dflt)), AV.xl false 1 (List.length y) fun i j => AV.v (Value.int .i64 (List.getD y i Enc.dflt))] → bsplit q1 (bsplit q3 (q5 ∧ q7 ∧ bsplit (ltB (cmpL q6 q8) (0 : Int)) (2 = List.length [AV.junk, AV.junk] ∧ (True ∧ Value.slice (Non Addr) 0 0 = Value.slice (Non Addr) 0 0 ∧ List.length q9 = 0) ∧ avM q2 q10) (bsplit ((↑(List.length y) : Int) == (1 : Int)) (bsplit (DB.db ((0 : Int) ≤ (0 : Int) ∧ (0 : Int) < (↑(List.length y) : Int))) (bsplit q1 (q5 ∧ ((0 : Int) < List.getD y 0 Enc.dflt ∧ List.getD y 0 Enc.dflt ≤
 (1000000000 : Int)) ∧ List.length q6 ≤ 1000000000 ∧ 2 = List.length [AV.junk, AV.junk] ∧ (True ∧ avM (AV.xl false 1 (List.length q12) fun i j => AV.v (Value.int .i64 (List.getD q12 i Enc.dflt))) q14) ∧ avM (AV.xl false 1 (List.length q15) fun i j => AV.v (Value.int .i64 (List.getD q15 i Enc.dflt))) q10) False) False) (bsplit (DB.db (inK .i64 ((↑(List.length y) : Int) - (1 : Int)))) (bsplit (DB.db ((0 : Int) ≤ (↑(List.length y) : Int) - (1 : Int) ∧ (↑(List.length y) : Int) - (1 : Int) < (↑(List.length y) : Int))) (bsplit (DB.db (inK .i64 q16)) (bsplit (DB.db (List.getD y q17 Enc.dflt + (1 : Int)
 ≠ (0 : Int))) (bsplit (DB.db (inK .i64 q18)) (bsplit q1 (q5 ∧ q19 ∧ List.length q6 ≤ 1000000000 ∧ List.length q21 ≤ 1000000000 ∧ bsplit (DB.db (q22 * 8 ≤ 140737488355328)) (bsplit q3 (q7 ∧ q19 ∧ List.length q8 ≤ 1000000000 ∧ List.length q21 ≤ 1000000000 ∧ (∃ (z : Nat), let q29 := (obInts q25 ++ List.replicate z (0 : Int)); ((z = 0 ∨ List.length q24 + z ≤ List.length x + 1) ∧ avM q2 q2 ∧ (nat_lit 0 = 0 ∧ 0 = 0) ∧ q26 ∧ (nat_lit 4 = 4 ∧ 0 = 0) ∧ (nat_lit 5 = 5 ∧ 0 = 0) ∧ True ∧ True) ∧ ((q27 ∧ (57 : TypeId) = 57 ∧ 1 = 1 ∧ nat_lit 6 = 6 ∧ 0 = 0 ∧ List.length q24 + z = List.length q23 + 1) ∧ 57 =
 57 ∧ 1 = 1 ∧ nat_lit 3 = 3 ∧ 0 = 0 ∧ List.length q28 = List.length q28) ∧ (3 : TypeId) = 3 ∧ 1 = 1 ∧ List.length q29 = List.length q23 + 1 ∧ ∀ (i j : Nat), i < List.length q23 + 1 → j < 1 → avM (if i < List.length q23 then AV.v (Value.int .i64 (List.getD q23 i (0 : Int))) else Sx.rowAt [fun (x : Nat) => AV.v (Value.int .i64 (0 : Int))] (i - List.length q23) j) (AV.v (Value.int .i64 (List.getD q29 i (0 : Int))))) ∧ ∀ (z : Nat), let q31 := (List.length q24 + z); let q30 := (↑q31 : Int); let q33 := (obInts q25 ++ List.replicate z (0 : Int)); let q34 := (q30 - q35); let q38 := (Int.toNat q34); let
 q37 := (↑q38 : Int); let q40 := ((((((57 = 57 ∧ 1 = 1 ∧ nat_lit 7 = 7 ∧ 0 = 0 ∧ Int.toNat q34 = Int.toNat q34) ∧ True) ∧ True) ∧ 3 = 3 ∧ 1 = 1 ∧ List.length q28 = List.length q28 ∧ ∀ (i j : Nat), i < List.length q28 → j < 1 → IntKind.i64 = .i64 ∧ List.getD q28 i (0 : Int) = List.getD q28 i (0 : Int)) ∧ 57 = 57 ∧ 1 = 1 ∧ nat_lit 6 = 6 ∧ 0 = 0 ∧ List.length q24 + z = List.length q24 + z) ∧ 57 = 57 ∧ 1 = 1 ∧ nat_lit 3 = 3 ∧ 0 = 0 ∧ List.length q28 = List.length q28); let q57 := (nat_lit 6 = 6 ∧ 0 = 0 ∧ List.length q24 + z = List.length q24 + z); z = 0 ∨ List.length q24 + z ≤ List.length x + 1 →
 bsplit (DB.db (inK .i64 ((↑(List.length x) : Int) + (1 : Int)))) (bsplit (ltB q30 ((↑(List.length x) : Int) + (1 : Int))) (bsplit (DB.db ((List.length q24 + z + 1) * 8 ≤ 140737488355328)) (∃ (z' : Nat), let q32 := (obInts q25 ++ List.replicate z' (0 : Int)); (((z' = 0 ∨ List.length q24 + z' ≤ List.length x + 1) ∧ List.length x + 1 - List.length q24 - z' < List.length x + 1 - List.length q24 - z) ∧ avM q2 q2 ∧ (nat_lit 0 = 0 ∧ 0 = 0) ∧ q26 ∧ (nat_lit 4 = 4 ∧ 0 = 0) ∧ (nat_lit 5 = 5 ∧ 0 = 0) ∧ True ∧ True) ∧ ((q27 ∧ 57 = 57 ∧ 1 = 1 ∧ nat_lit 6 = 6 ∧ 0 = 0 ∧ List.length q24 + z' = List.length q24
 + z + 1) ∧ 57 = 57 ∧ 1 = 1 ∧ nat_lit 3 = 3 ∧ 0 = 0 ∧ List.length q28 = List.length q28) ∧ (3 : TypeId) = 3 ∧ 1 = 1 ∧ List.length q32 = List.length q24 + z + 1 ∧ ∀ (i j : Nat), i < List.length q24 + z + 1 → j < 1 → avM (if i < List.length q24 + z then AV.v (Value.int .i64 (List.getD q33 i (0 : Int))) else Sx.rowAt [fun (x : Nat) => AV.v (Value.int .i64 (0 : Int))] (i - q31) j) (AV.v (Value.int .i64 (List.getD q32 i (0 : Int))))) False) (bsplit (DB.db (inK .i64 q34)) (bsplit (DB.db ((0 : Int) ≤ q30 - q35 ∧ q30 - q35 ≤ q30 - q35 ∧ (↑8 : Int) * q34 ≤ (140737488355328 : Int))) (bsplit (DB.db (inK
 .i64 (q37 - (1 : Int)))) ((∃ (z_1 : DvP), ((DivJ (1000000000 : Int) (valL (1000000000 : Int) x * dvF y) (valL (1000000000 : Int) y * dvF y) (List.length y) q39 (DvP.j z_1) (DvP.q z_1) (DvP.u z_1) ∧ DvP.j z_1 ≤ max (List.length (prL x [dvF y]) + 1) (List.length x + 1) - List.length y) ∧ nat_lit 9 = 9 ∧ (nat_lit 8 = 8 ∧ 0 = 0) ∧ IntKind.i64 = .i64 ∧ q37 - (1 : Int) = (↑(DvP.j z_1) : Int) - (1 : Int)) ∧ (((q40 ∧ 3 = 3 ∧ 1 = 1 ∧ List.length (DvP.u z_1) = List.length q33 ∧ ∀ (i j : Nat), i < List.length q33 → j < 1 → IntKind.i64 = .i64 ∧ List.getD q33 i (0 : Int) = List.getD (DvP.u z_1) i (0 : Int))
 ∧ (3 : TypeId) = 3 ∧ 1 = 1 ∧ List.length (DvP.q z_1) = Int.toNat q34 ∧ ∀ (i j : Nat), i < Int.toNat q34 → j < 1 → avM (zcell (Value.int .i64 (0 : Int)) j) (AV.v (Value.int .i64 (List.getD (DvP.q z_1) i (0 : Int))))) ∧ 57 = 57 ∧ 1 = 1 ∧ nat_lit 7 = 7 ∧ 0 = 0 ∧ Int.toNat q34 = Int.toNat q34) ∧ LoopState.ready = LoopState.ready ∧ Non Code = Non Code) ∧ ∀ (z_1 : DvP), let q41 := (DB.db ((0 : Int) ≤ (↑(DvP.j z_1) : Int) - (1 : Int) ∧ (↑(DvP.j z_1) : Int) - (1 : Int) < q37)); let q43 := (AV.xl false 1 q31 fun i j => AV.v (Value.int .i64 (List.getD (DvP.u z_1) (0 + i) (0 : Int)))); let q42 := (slOk
 Int q43); let q46 := (intsOf q43); let q51 := (Int.toNat (AV.int (AV.v (Value.int .i64 ((↑(DvP.j z_1) : Int) - (1 : Int)))))); let q52 := (obInts (OB.arr (3 : TypeId) 1 (List.length (DvP.u z_1)) fun (i x : Nat) => AV.v (Value.int .i64 (List.getD (DvP.u z_1) i (0 : Int))))); let q50 := (List.drop q51 q52); let q53 := (IntKind.i64 = .i64 ∧ (↑(DvP.j z_1) : Int) - (1 : Int) = (↑(DvP.j z_1) : Int) - (1 : Int)); let q77 := (trimL q46); let q76 := (AV.xl false 1 (List.length q77) fun i j => AV.v (Value.int .i64 (List.getD q77 i Enc.dflt))); let q78 := (intsOf q76); let q79 := (AV.xl false 1 q38 fun i
 j => AV.v (Value.int .i64 (List.getD (DvP.q z_1) (0 + i) (0 : Int)))); let q80 := (trimL (intsOf q79)); let q81 := (limbs 1000000000 (Int.toNat (valL (1000000000 : Int) q78) / Int.toNat q18)); DivJ (1000000000 : Int) (valL (1000000000 : Int) x * dvF y) (valL (1000000000 : Int) y * dvF y) (List.length y) q39 (DvP.j z_1) (DvP.q z_1) (DvP.u z_1) ∧ DvP.j z_1 ≤ max (List.length (prL x [dvF y]) + 1) (List.length x + 1) - List.length y → bsplit (leB (0 : Int) ((↑(DvP.j z_1) : Int) - (1 : Int))) (bsplit q41 (bsplit q42 (bsplit q44 ((∀ (x_1 : Int), List.Mem x_1 q46 → (0 : Int) ≤ x_1 ∧ x_1 < (1000000000
 : Int)) ∧ (∀ (x : Int), let q47 := (prL q8 (intsOf (AV.xl true 1 1 (Sx.rowAt [fun (x : Nat) => AV.v q20])))); List.Mem x (intsOf (AV.xl false 1 (List.length q47) fun i j => AV.v (Value.int .i64 (List.getD q47 (0 + i) (0 : Int))))) → (0 : Int) ≤ x ∧ x < (1000000000 : Int)) ∧ 2 ≤ List.length q48 ∧ List.length q48 ≤ 1000000000 ∧ ((0 : Int) ≤ (↑(DvP.j z_1) : Int) - (1 : Int) ∧ (↑(DvP.j z_1) : Int) - (1 : Int) + (↑(List.length q48) : Int) < (↑(List.length q46) : Int)) ∧ (0 : Int) < List.getD q48 q49 (0 : Int) ∧ List.getD q46 (Int.toNat ((↑(DvP.j z_1) : Int) - (1 : Int)) + List.length q48) (0 : Int)
 ≤ List.getD q48 q49 (0 : Int) ∧ (∃ (z_2 : Int), (((0 : Int) ≤ z_2 ∧ z_2 ≤ (2000000000 : Int) ∧ valL (1000000000 : Int) q50 < (z_2 + (1 : Int)) * (valL (1000000000 : Int) y * dvF y)) ∧ (nat_lit 0 = 0 ∧ 0 = 0) ∧ q26 ∧ (nat_lit 4 = 4 ∧ 0 = 0) ∧ (nat_lit 5 = 5 ∧ 0 = 0) ∧ q53 ∧ IntKind.i64 = .i64 ∧ estF (1000000000 : Int) q46 q48 (Int.toNat ((↑(DvP.j z_1) : Int) - (1 : Int))) = z_2) ∧ (((q40 ∧ 3 = 3 ∧ 1 = 1 ∧ List.length (DvP.u z_1) = List.length (DvP.u z_1) ∧ ∀ (i j : Nat), i < List.length (DvP.u z_1) → j < 1 → IntKind.i64 = .i64 ∧ List.getD (DvP.u z_1) i (0 : Int) = List.getD (DvP.u z_1) i (0 :
 Int)) ∧ 3 = 3 ∧ 1 = 1 ∧ List.length (DvP.q z_1) = List.length (DvP.q z_1) ∧ ∀ (i j : Nat), i < List.length (DvP.q z_1) → j < 1 → IntKind.i64 = .i64 ∧ List.getD (DvP.q z_1) i (0 : Int) = List.getD (DvP.q z_1) i (0 : Int)) ∧ 57 = 57 ∧ 1 = 1 ∧ nat_lit 7 = 7 ∧ 0 = 0 ∧ Int.toNat q34 = Int.toNat q34) ∧ LoopState.busy = LoopState.busy ∧ Non Code = Non Code) ∧ ∀ (z_2 : Int), (0 : Int) ≤ z_2 ∧ z_2 ≤ (2000000000 : Int) ∧ valL (1000000000 : Int) q50 < (z_2 + (1 : Int)) * (valL (1000000000 : Int) y * dvF y) → bsplit q54 ((∃ (z_3 : TkS), ((TakI (1000000000 : Int) q52 q56 q51 (AV.int (AV.v (Value.int .i64
 z_2))) (TkS.i z_3) (TkS.w z_3) (TkS.c z_3) ∧ TkS.i z_3 ≤ List.length q56 + 1) ∧ q57 ∧ q58 ∧ q53 ∧ (IntKind.i64 = .i64 ∧ z_2 = z_2) ∧ q59 ∧ (IntKind.i64 = .i64 ∧ (0 : Int) = TkS.c z_3) ∧ IntKind.i64 = .i64 ∧ (0 : Int) = (↑(TkS.i z_3) : Int)) ∧ (((q40 ∧ 3 = 3 ∧ 1 = 1 ∧ List.length (TkS.w z_3) = List.length (DvP.u z_1) ∧ ∀ (i j : Nat), i < List.length (DvP.u z_1) → j < 1 → IntKind.i64 = .i64 ∧ List.getD (DvP.u z_1) i (0 : Int) = List.getD (TkS.w z_3) i (0 : Int)) ∧ 3 = 3 ∧ 1 = 1 ∧ List.length (DvP.q z_1) = List.length (DvP.q z_1) ∧ ∀ (i j : Nat), i < List.length (DvP.q z_1) → j < 1 → IntKind.i64 =
 .i64 ∧ List.getD (DvP.q z_1) i (0 : Int) = List.getD (DvP.q z_1) i (0 : Int)) ∧ 57 = 57 ∧ 1 = 1 ∧ nat_lit 7 = 7 ∧ 0 = 0 ∧ Int.toNat q34 = Int.toNat q34) ∧ LoopState.busy = LoopState.busy ∧ Non Code = Non Code) ∧ ∀ (z_3 : TkS), let q61 := ((↑(DvP.j z_1) : Int) - (1 : Int) + (↑(TkS.i z_3) : Int)); let q60 := (DB.db (inK .i64 q61)); let q62 := (DB.db ((0 : Int) ≤ (↑(DvP.j z_1) : Int) - (1 : Int) + (↑(TkS.i z_3) : Int) ∧ (↑(DvP.j z_1) : Int) - (1 : Int) + (↑(TkS.i z_3) : Int) < q30)); let q63 := (0 + Int.toNat q61); let q64 := (List.getD (TkS.w z_3) q63 (0 : Int) - TkS.c z_3 - z_2 * List.getD q48
 (Int.toNat (↑(TkS.i z_3) : Int)) (0 : Int)); let q65 := (-q64 + (1000000000 : Int) - (1 : Int)); let q66 := (List.getD (TkS.w z_3) q63 (0 : Int) - TkS.c z_3 - z_2 * List.getD q48 (Int.toNat (↑(TkS.i z_3) : Int)) (0 : Int) + Int.tdiv q65 (1000000000 : Int) * (1000000000 : Int)); let q67 := (DB.db (inK .i64 ((↑(TkS.i z_3) : Int) + (1 : Int)))); let q68 := (List.getD (TkS.w z_3) q63 (0 : Int) - TkS.c z_3 - z_2 * List.getD q48 (Int.toNat (↑(TkS.i z_3) : Int)) (0 : Int) + (0 : Int) * (1000000000 : Int)); let q69 := (obInts (OB.arr (3 : TypeId) 1 (List.length (TkS.w z_3)) fun (i x : Nat) => AV.v
 (Value.int .i64 (List.getD (TkS.w z_3) i (0 : Int))))); TakI (1000000000 : Int) q52 q56 q51 (AV.int (AV.v (Value.int .i64 z_2))) (TkS.i z_3) (TkS.w z_3) (TkS.c z_3) ∧ TkS.i z_3 ≤ List.length q56 + 1 → bsplit (ltB (↑(TkS.i z_3) : Int) q55) (bsplit q60 (bsplit q62 (bsplit (DB.db (inK .i64 (List.getD (TkS.w z_3) q63 (0 : Int) - TkS.c z_3))) (bsplit q44 ((0 : Int) ≤ (↑(TkS.i z_3) : Int) ∧ bsplit (DB.db (inK .i64 (z_2 * List.getD q48 (Int.toNat (↑(TkS.i z_3) : Int)) (0 : Int)))) (bsplit (DB.db (inK .i64 q64)) (bsplit (ltB q64 (0 : Int)) (bsplit (DB.db (inK .i64 (-q64))) (bsplit (DB.db (inK .i64
 (-q64 + (1000000000 : Int)))) (bsplit (DB.db (inK .i64 q65)) (bsplit (DB.db (inK .i64 (Int.tdiv q65 (1000000000 : Int)))) (bsplit q60 (bsplit (DB.db (inK .i64 (Int.tdiv q65 (1000000000 : Int) * (1000000000 : Int)))) (bsplit (DB.db (inK .i64 q66)) (bsplit q62 (bsplit q67 (∃ (z' : TkS), (((TakI (1000000000 : Int) q52 q56 q51 (AV.int (AV.v (Value.int .i64 z_2))) (TkS.i z') (TkS.w z') (TkS.c z') ∧ TkS.i z' ≤ List.length q56 + 1) ∧ List.length q56 + 1 - TkS.i z' < List.length q56 + 1 - TkS.i z_3) ∧ q57 ∧ q58 ∧ q53 ∧ (IntKind.i64 = .i64 ∧ z_2 = z_2) ∧ q59 ∧ (IntKind.i64 = .i64 ∧ Int.tdiv q65
 (1000000000 : Int) = TkS.c z') ∧ IntKind.i64 = .i64 ∧ (↑(TkS.i z_3) : Int) + (1 : Int) = (↑(TkS.i z') : Int)) ∧ (((q40 ∧ 3 = 3 ∧ 1 = 1 ∧ List.length (TkS.w z') = List.length (TkS.w z_3) ∧ ∀ (i j : Nat), i < List.length (TkS.w z_3) → j < 1 → avM (if i = 0 + Int.toNat q61 ∧ 0 ≤ j ∧ j < 1 then AV.v (Value.int .i64 q66) else AV.v (Value.int .i64 (List.getD (TkS.w z_3) i (0 : Int)))) (AV.v (Value.int .i64 (List.getD (TkS.w z') i (0 : Int))))) ∧ 3 = 3 ∧ 1 = 1 ∧ List.length (DvP.q z_1) = List.length (DvP.q z_1) ∧ ∀ (i j : Nat), i < List.length (DvP.q z_1) → j < 1 → IntKind.i64 = .i64 ∧ List.getD
 (DvP.q z_1) i (0 : Int) = List.getD (DvP.q z_1) i (0 : Int)) ∧ 57 = 57 ∧ 1 = 1 ∧ nat_lit 7 = 7 ∧ 0 = 0 ∧ Int.toNat q34 = Int.toNat q34) ∧ LoopState.busy = LoopState.busy ∧ Non Code = Non Code) False) False) False) False) False) False) False) False) False) (bsplit q60 (bsplit (DB.db (inK .i64 q68)) (bsplit q62 (bsplit q67 (∃ (z' : TkS), (((TakI (1000000000 : Int) q52 q56 q51 (AV.int (AV.v (Value.int .i64 z_2))) (TkS.i z') (TkS.w z') (TkS.c z') ∧ TkS.i z' ≤ List.length q56 + 1) ∧ List.length q56 + 1 - TkS.i z' < List.length q56 + 1 - TkS.i z_3) ∧ q57 ∧ q58 ∧ q53 ∧ (IntKind.i64 = .i64 ∧ z_2 = z_2)
 ∧ q59 ∧ (IntKind.i64 = .i64 ∧ (0 : Int) = TkS.c z') ∧ IntKind.i64 = .i64 ∧ (↑(TkS.i z_3) : Int) + (1 : Int) = (↑(TkS.i z') : Int)) ∧ (((q40 ∧ 3 = 3 ∧ 1 = 1 ∧ List.length (TkS.w z') = List.length (TkS.w z_3) ∧ ∀ (i j : Nat), i < List.length (TkS.w z_3) → j < 1 → avM (if i = 0 + Int.toNat q61 ∧ 0 ≤ j ∧ j < 1 then AV.v (Value.int .i64 q68) else AV.v (Value.int .i64 (List.getD (TkS.w z_3) i (0 : Int)))) (AV.v (Value.int .i64 (List.getD (TkS.w z') i (0 : Int))))) ∧ 3 = 3 ∧ 1 = 1 ∧ List.length (DvP.q z_1) = List.length (DvP.q z_1) ∧ ∀ (i j : Nat), i < List.length (DvP.q z_1) → j < 1 → IntKind.i64 =
 .i64 ∧ List.getD (DvP.q z_1) i (0 : Int) = List.getD (DvP.q z_1) i (0 : Int)) ∧ 57 = 57 ∧ 1 = 1 ∧ nat_lit 7 = 7 ∧ 0 = 0 ∧ Int.toNat q34 = Int.toNat q34) ∧ LoopState.busy = LoopState.busy ∧ Non Code = Non Code) False) False) False) False)) False) False) False) False) False) False) (bsplit (ltB (0 : Int) (TkS.c z_3)) (bsplit q54 ((∃ (z_4 : TkS), ((RstI (1000000000 : Int) q69 q56 q51 (AV.int (AV.v (Value.int .i64 z_2))) (TkS.i z_4) (TkS.w z_4) (TkS.c z_4) ∧ TkS.i z_4 ≤ List.length q56 + 1) ∧ q57 ∧ q58 ∧ q53 ∧ (IntKind.i64 = .i64 ∧ z_2 = z_2) ∧ q59 ∧ (IntKind.i64 = .i64 ∧ (0 : Int) = TkS.c z_4) ∧
 IntKind.i64 = .i64 ∧ (0 : Int) = (↑(TkS.i z_4) : Int)) ∧ (((q40 ∧ 3 = 3 ∧ 1 = 1 ∧ List.length (TkS.w z_4) = List.length (TkS.w z_3) ∧ ∀ (i j : Nat), i < List.length (TkS.w z_3) → j < 1 → IntKind.i64 = .i64 ∧ List.getD (TkS.w z_3) i (0 : Int) = List.getD (TkS.w z_4) i (0 : Int)) ∧ 3 = 3 ∧ 1 = 1 ∧ List.length (DvP.q z_1) = List.length (DvP.q z_1) ∧ ∀ (i j : Nat), i < List.length (DvP.q z_1) → j < 1 → IntKind.i64 = .i64 ∧ List.getD (DvP.q z_1) i (0 : Int) = List.getD (DvP.q z_1) i (0 : Int)) ∧ 57 = 57 ∧ 1 = 1 ∧ nat_lit 7 = 7 ∧ 0 = 0 ∧ Int.toNat q34 = Int.toNat q34) ∧ LoopState.busy =
 LoopState.busy ∧ Non Code = Non Code) ∧ ∀ (z_4 : TkS), let q71 := ((↑(DvP.j z_1) : Int) - (1 : Int) + (↑(TkS.i z_4) : Int)); let q70 := (DB.db (inK .i64 q71)); let q72 := (DB.db ((0 : Int) ≤ (↑(DvP.j z_1) : Int) - (1 : Int) + (↑(TkS.i z_4) : Int) ∧ (↑(DvP.j z_1) : Int) - (1 : Int) + (↑(TkS.i z_4) : Int) < q30)); let q74 := (0 + Int.toNat q71); let q75 := (List.getD (TkS.w z_4) q74 (0 : Int) + z_2 * List.getD q48 (Int.toNat (↑(TkS.i z_4) : Int)) (0 : Int) + TkS.c z_4); let q73 := ((0 : Int) ≤ (↑(TkS.i z_4) : Int) ∧ bsplit (DB.db (inK .i64 (z_2 * List.getD q48 (Int.toNat (↑(TkS.i z_4) : Int)) (0
 : Int)))) (bsplit (DB.db (inK .i64 (List.getD (TkS.w z_4) q74 (0 : Int) + z_2 * List.getD q48 (Int.toNat (↑(TkS.i z_4) : Int)) (0 : Int)))) (bsplit (DB.db (inK .i64 q75)) (bsplit q70 (bsplit (DB.db (inK .i64 (Int.tdiv q75 (1000000000 : Int)))) (bsplit q72 (bsplit (DB.db (inK .i64 ((↑(TkS.i z_4) : Int) + (1 : Int)))) (∃ (z' : TkS), (((RstI (1000000000 : Int) q69 q56 q51 (AV.int (AV.v (Value.int .i64 z_2))) (TkS.i z') (TkS.w z') (TkS.c z') ∧ TkS.i z' ≤ List.length q56 + 1) ∧ List.length q56 + 1 - TkS.i z' < List.length q56 + 1 - TkS.i z_4) ∧ q57 ∧ q58 ∧ q53 ∧ (IntKind.i64 = .i64 ∧ z_2 = z_2) ∧
 q59 ∧ (IntKind.i64 = .i64 ∧ Int.tdiv q75 (1000000000 : Int) = TkS.c z') ∧ IntKind.i64 = .i64 ∧ (↑(TkS.i z_4) : Int) + (1 : Int) = (↑(TkS.i z') : Int)) ∧ (((q40 ∧ 3 = 3 ∧ 1 = 1 ∧ List.length (TkS.w z') = List.length (TkS.w z_4) ∧ ∀ (i j : Nat), i < List.length (TkS.w z_4) → j < 1 → avM (if i = 0 + Int.toNat q71 ∧ 0 ≤ j ∧ j < 1 then AV.v (Value.int .i64 (Int.tmod q75 (1000000000 : Int))) else AV.v (Value.int .i64 (List.getD (TkS.w z_4) i (0 : Int)))) (AV.v (Value.int .i64 (List.getD (TkS.w z') i (0 : Int))))) ∧ 3 = 3 ∧ 1 = 1 ∧ List.length (DvP.q z_1) = List.length (DvP.q z_1) ∧ ∀ (i j : Nat), i <
 List.length (DvP.q z_1) → j < 1 → IntKind.i64 = .i64 ∧ List.getD (DvP.q z_1) i (0 : Int) = List.getD (DvP.q z_1) i (0 : Int)) ∧ 57 = 57 ∧ 1 = 1 ∧ nat_lit 7 = 7 ∧ 0 = 0 ∧ Int.toNat q34 = Int.toNat q34) ∧ LoopState.busy = LoopState.busy ∧ Non Code = Non Code) False) False) False) False) False) False) False); RstI (1000000000 : Int) q69 q56 q51 (AV.int (AV.v (Value.int .i64 z_2))) (TkS.i z_4) (TkS.w z_4) (TkS.c z_4) ∧ TkS.i z_4 ≤ List.length q56 + 1 → bsplit (ltB (↑(TkS.i z_4) : Int) q55) (bsplit q70 (bsplit q72 (bsplit q44 q73 False ∧ bsplit q44 q73 False) False) False) (bsplit (DB.db (inK .i64
 (z_2 - (1 : Int)))) (∃ (z' : Int), ((((0 : Int) ≤ z' ∧ z' ≤ (2000000000 : Int) ∧ valL (1000000000 : Int) q50 < (z' + (1 : Int)) * (valL (1000000000 : Int) y * dvF y)) ∧ Int.toNat z' < Int.toNat z_2) ∧ (nat_lit 0 = 0 ∧ 0 = 0) ∧ q26 ∧ (nat_lit 4 = 4 ∧ 0 = 0) ∧ (nat_lit 5 = 5 ∧ 0 = 0) ∧ q53 ∧ IntKind.i64 = .i64 ∧ z_2 - (1 : Int) = z') ∧ (((q40 ∧ 3 = 3 ∧ 1 = 1 ∧ List.length (DvP.u z_1) = List.length (TkS.w z_4) ∧ ∀ (i j : Nat), i < List.length (TkS.w z_4) → j < 1 → IntKind.i64 = .i64 ∧ List.getD (TkS.w z_4) i (0 : Int) = List.getD (DvP.u z_1) i (0 : Int)) ∧ 3 = 3 ∧ 1 = 1 ∧ List.length (DvP.q z_1) =
 List.length (DvP.q z_1) ∧ ∀ (i j : Nat), i < List.length (DvP.q z_1) → j < 1 → IntKind.i64 = .i64 ∧ List.getD (DvP.q z_1) i (0 : Int) = List.getD (DvP.q z_1) i (0 : Int)) ∧ 57 = 57 ∧ 1 = 1 ∧ nat_lit 7 = 7 ∧ 0 = 0 ∧ Int.toNat q34 = Int.toNat q34) ∧ LoopState.busy = LoopState.busy ∧ Non Code = Non Code) False)) False) (bsplit q41 (bsplit (DB.db (inK .i64 ((↑(DvP.j z_1) : Int) - (1 : Int) - (1 : Int)))) (∃ (z' : DvP), (((DivJ (1000000000 : Int) (valL (1000000000 : Int) x * dvF y) (valL (1000000000 : Int) y * dvF y) (List.length y) q39 (DvP.j z') (DvP.q z') (DvP.u z') ∧ DvP.j z' ≤ max (List.length
 (prL x [dvF y]) + 1) (List.length x + 1) - List.length y) ∧ DvP.j z' < DvP.j z_1) ∧ nat_lit 9 = 9 ∧ (nat_lit 8 = 8 ∧ 0 = 0) ∧ IntKind.i64 = .i64 ∧ (↑(DvP.j z_1) : Int) - (1 : Int) - (1 : Int) = (↑(DvP.j z') : Int) - (1 : Int)) ∧ (((q40 ∧ 3 = 3 ∧ 1 = 1 ∧ List.length (DvP.u z') = List.length (TkS.w z_3) ∧ ∀ (i j : Nat), i < List.length (TkS.w z_3) → j < 1 → IntKind.i64 = .i64 ∧ List.getD (TkS.w z_3) i (0 : Int) = List.getD (DvP.u z') i (0 : Int)) ∧ 3 = 3 ∧ 1 = 1 ∧ List.length (DvP.q z') = List.length (DvP.q z_1) ∧ ∀ (i j : Nat), i < List.length (DvP.q z_1) → j < 1 → avM (if i = 0 + Int.toNat
 ((↑(DvP.j z_1) : Int) - (1 : Int)) ∧ 0 ≤ j ∧ j < 1 then AV.v (Value.int .i64 z_2) else AV.v (Value.int .i64 (List.getD (DvP.q z_1) i (0 : Int)))) (AV.v (Value.int .i64 (List.getD (DvP.q z') i (0 : Int))))) ∧ 57 = 57 ∧ 1 = 1 ∧ nat_lit 7 = 7 ∧ 0 = 0 ∧ Int.toNat q34 = Int.toNat q34) ∧ LoopState.ready = LoopState.ready ∧ Non Code = Non Code) False) False))) False) False) False) False) (bsplit q42 (bsplit (slOk Int q76) ((∀ (x_1 : Int), List.Mem x_1 q78 → (0 : Int) ≤ x_1 ∧ x_1 < (1000000000 : Int)) ∧ ((0 : Int) < Int.tdiv (1000000000 : Int) q16 ∧ Int.tdiv (1000000000 : Int) q16 ≤ (1000000000 : Int))
 ∧ List.length q78 ≤ 1000000000 ∧ bsplit (slOk Int q79) (2 = List.length [AV.junk, AV.junk] ∧ (True ∧ avM (AV.xl false 1 (List.length q80) fun i j => AV.v (Value.int .i64 (List.getD q80 i Enc.dflt))) q14) ∧ avM (AV.xl false 1 (List.length q81) fun i j => AV.v (Value.int .i64 (List.getD q81 i Enc.dflt))) q10) False) False) False)) False) False) False)) False) False) False) False) False) False) False) False) False))) False) False := by
  dsimp only
  intro hb
  have e0 : (Enc.dflt : Int) = 0 := rfl
  simp only [↓vc_db, ↓vc_gdb, row_one]
  simp only [sS, dS, e0]
  have en : ((y.length : Int) - 1).toNat = y.length - 1 := by omega
  have hF : Int.tdiv 1000000000 (y.getD (y.length - 1) 0 + 1) = dvF y := rfl
  simp only [obI, implies_true, and_true, true_and, int1, en, hF, obI1, and_self]
  obtain ⟨f0, f1, vl, vi, vv, vt, vp, y0⟩ := dv_facts hy ty hn
  have x0 := valL_nonneg (b := 1000000000) (by omega) hx
  obtain ⟨pe, pv, pi⟩ := prL_val hx (f := dvF y) (by omega)
  have pl : (prL x [dvF y]).length ≤ x.length + 1 := by
    rw [pe]
    refine limbs_len_le (b := 1000000000) (by omega) ?_
    have h1 := valL_lt (b := 1000000000) (by omega) hx
    have h2 : valL 1000000000 x * dvF y ≤ valL 1000000000 x * 1000000000 := Int.mul_le_mul_of_nonneg_left (by omega) x0
    rw [Int.toNat_of_nonneg (Int.mul_nonneg x0 (by omega))]
    show _ < (1000000000 : Int) ^ (x.length + 1)
    rw [Int.pow_succ]
    omega
  have i1 : InL 1000000000 [dvF y] := .one (by omega) (by omega)
  have hcx := cmpLe hx hy tx ty
  obtain ⟨X, hX⟩ : ∃ X : Nat, valL 1000000000 x = X := ⟨(valL 1000000000 x).toNat, by omega⟩
  obtain ⟨Y, hY⟩ : ∃ Y : Nat, valL 1000000000 y = Y := ⟨(valL 1000000000 y).toNat, by omega⟩
  have ex : x = limbs 1000000000 X := by
    have h : x = limbs 1000000000 (valL 1000000000 x).toNat := limbs_eq (b := 1000000000) (by omega) hx tx
    rw [hX, Int.toNat_natCast] at h
    exact h
  refine ⟨hx, hy, fun hc => ?_, fun hc => ⟨fun h1 => ?_, fun h1 => ?_⟩⟩
  · have hlt : X < Y := by omega
    rw [hX, hY, Int.toNat_natCast, Int.toNat_natCast, Nat.div_eq_of_lt hlt, Nat.mod_eq_of_lt hlt, limbs_zero, ← ex]
    exact ⟨rfl, rfl, avM_refl _⟩
  · have d4 := hy.get (by omega) 0
    have ev : valL 1000000000 y = y.getD 0 0 := by
      have := valL_drop (1000000000 : Int) (l := y) (z := 0) (by omega)
      rw [List.drop_zero, List.drop_of_length_le (l := y) (i := 0 + 1) (by omega), valL_nil, Int.mul_zero, Int.add_zero] at this
      exact this
    rw [ev] at y0 ⊢
    exact ⟨⟨by omega, by omega⟩, hx, ⟨by omega, by omega⟩, by omega, rfl, avM_refl _, avM_refl _⟩
  have d4 := hy.get (by omega) (y.length - 1)
  have ey : y = limbs 1000000000 Y := by
    have h : y = limbs 1000000000 (valL 1000000000 y).toNat := limbs_eq (b := 1000000000) (by omega) hy ty
    rw [hY, Int.toNat_natCast] at h
    exact h
  have hxy : y.length ≤ x.length := by
    have := limbs_len_mono (b := 1000000000) (m := Y) (n := X) (by omega) (by omega)
    rw [← ex, ← ey] at this
    exact this
  clear hF ex ey pe
  generalize prL x [dvF y] = P at *
  generalize prL y [dvF y] = W at *
  generalize dvF y = f at *
  generalize hA : valL 1000000000 x * f = A at *
  generalize hB : valL 1000000000 y * f = B at *
  simp only [List.length_append, List.length_singleton, List.length_replicate, vl]
  have lz : ∀ z, (P ++ [0] ++ List.replicate z 0).length = P.length + 1 + z := fun z => by simp; omega
  have zs : ∀ z, P ++ [0] ++ List.replicate (z + 1) 0 = (P ++ [0] ++ List.replicate z 0) ++ [(0 : Int)] := fun z => by rw [List.replicate_succ', ← List.append_assoc]
  refine ⟨⟨by omega, by omega⟩, ⟨by omega, by omega⟩, ⟨by omega, by omega⟩, by omega, ⟨by omega, by omega⟩, hx, i1, by omega, by omega, by omega, hy, i1, by omega, by omega, ⟨0, .inl rfl, ⟨rfl, rfl⟩, rfl, fun i j hi hj => ?_⟩, fun z hz => ⟨⟨by omega, by omega⟩, fun hlt => ⟨by omega, z + 1, ⟨.inr (by omega), by omega⟩, ⟨rfl, by omega⟩, by omega, fun i j hi hj => ?_⟩, fun hge => ?_⟩⟩
  · rw [List.replicate_zero, List.append_nil]
    exact snocI P 0 i j hi hj
  · have := snocI (P ++ [0] ++ List.replicate z 0) 0 i j (by rw [lz]; exact hi) hj
    rw [lz, ← zs] at this
    exact this
  obtain ⟨m, hm⟩ : ∃ m, P.length + 1 + z = m + y.length := ⟨P.length + 1 + z - y.length, by omega⟩
  have e1 : max (P.length + 1) (x.length + 1) - y.length = m := by omega
  have e2 : ((m + y.length : Nat) : Int) - (y.length : Int) = (m : Int) := by omega
  simp only [hm, e1, e2, Int.toNat_natCast]
  obtain ⟨s1, s2, s3, s4⟩ := dv_start (m := m) (n := y.length) (z := z) pi (by omega) hm vp
  refine ⟨⟨by omega, by omega⟩, ⟨by omega, by omega, by omega⟩, ⟨by omega, by omega⟩, ⟨⟨m, List.replicate m 0, P ++ [0] ++ List.replicate z 0⟩, ⟨⟨.start (by omega) s4 s3 s1 (by rw [s2, pv]), Nat.le_refl _⟩, rfl⟩, ⟨s4, fun _ _ _ _ => rfl⟩, by simp, fun i j _ hj => zeroI _ i j hj⟩, fun d ⟨d1, d2⟩ => ?_⟩
  obtain ⟨j, q, u⟩ := d
  simp only at d1 d2 ⊢
  have ul := d1.ul
  have ql := d1.ql
  simp only [(slB ul.symm).1, (slB ul.symm).2, (slB ql.symm).1, (slB ql.symm).2, vc_tt]
  refine ⟨fun hj => ?_, fun hj => ?_⟩
  rotate_left
  · obtain rfl : j = 0 := by omega
    obtain ⟨F, rfl⟩ : ∃ F : Nat, f = F := ⟨f.toNat, by omega⟩
    have hAn : A = ((X * F : Nat) : Int) := by rw [← hA, hX, Int.natCast_mul]
    have hBn : B = ((Y * F : Nat) : Int) := by rw [← hB, hY, Int.natCast_mul]
    have F0 : 0 < F := by omega
    have Y0 : 0 < Y := by omega
    rw [hAn, hBn] at d1
    obtain ⟨r1, r2⟩ := DivJ.end_ (b := 1000000000) (by omega) (Nat.mul_pos Y0 F0) d1
    rw [Nat.mul_div_mul_right _ _ F0] at r1
    rw [Nat.mul_mod_mul_right] at r2
    have hlen : (limbs 1000000000 (X % Y * F)).length ≤ W.length := by
      refine limbs_len_le (b := 1000000000) (by omega) ?_
      have h1 := valL_lt (b := 1000000000) (by omega) vi
      rw [vv, hBn] at h1
      have h2 : X % Y * F ≤ Y * F := Nat.mul_le_mul_right _ (Nat.le_of_lt (Nat.mod_lt _ Y0))
      have h3 : ((X % Y * F : Nat) : Int) ≤ ((Y * F : Nat) : Int) := Int.ofNat_le.2 h2
      exact Int.lt_of_le_of_lt h3 h1
    have hv : valL 1000000000 (limbs 1000000000 (X % Y * F)) = ((X % Y * F : Nat) : Int) := limbs_val (b := 1000000000) (by omega) _
    rw [r1, r2, hX, hY, hv]
    simp only [Int.toNat_natCast, Nat.mul_div_cancel _ F0]
    exact ⟨limbs_in (b := 1000000000) (by omega) _, ⟨by omega, by omega⟩, by omega, rfl, avM_refl _, avM_refl _⟩
  obtain ⟨k, rfl⟩ : ∃ k, j = k + 1 := ⟨j - 1, by omega⟩
  have hk1 : ((k + 1 : Nat) : Int) - 1 = (k : Int) := by omega
  have hki : ∀ i : Nat, ((k : Int) + (i : Int)).toNat = k + i := fun i => by omega
  simp only [hk1, hki, Int.toNat_natCast]
  have n2 : 2 ≤ W.length := by omega
  have d1' : DivJ 1000000000 A B W.length m (k + 1) q u := by rw [vl]; exact d1
  have vt' : 0 < W.getD (W.length - 1) 0 := by rw [vl]; exact vt
  obtain ⟨g1, g2⟩ := estF_ok vi vv n2 vt' (by omega : k < m) d1'
  rw [vl] at g2
  have ui := d1.ui
  have hi0 : ∀ i, k + 1 + W.length ≤ i → u.getD i 0 = 0 := fun i hi => d1.hi i (by omega)
  refine ⟨⟨by omega, by omega⟩, ui, vi, by omega, by omega, ⟨by omega, by omega⟩, vt, g2, ⟨_, g1, rfl⟩, fun Q ⟨Q0, Q1, Q2⟩ => ⟨⟨by omega, by omega⟩, ⟨⟨0, 0, u⟩, ⟨⟨.start ui Q0, Nat.zero_le _⟩, rfl, rfl⟩, rfl, fun _ _ _ _ => rfl⟩, fun t ⟨t1, t2⟩ => ⟨fun ht => ?_, fun ht => ?_⟩⟩⟩
  · obtain ⟨⟨b0, b1⟩, hs⟩ := t1.step (by omega) vi Q0 (by omega : k + t.i < u.length)
    have tl := t1.len
    have w1 := vi.get (by omega) t.i
    have w2 := t1.in_.get (by omega) (k + t.i)
    have p0 : 0 ≤ Q * W.getD t.i 0 := Int.mul_nonneg Q0 w1.1
    have p1 : Q * W.getD t.i 0 ≤ Q * 1000000000 := Int.mul_le_mul_of_nonneg_left (by omega) Q0
    have c0 := t1.c0
    have c1 := t1.c1
    have h0 := hs.c0
    have h1 := hs.c1
    have o1 : -9223372036854775808 ≤ t.w.getD (k + t.i) 0 - t.c ∧ t.w.getD (k + t.i) 0 - t.c ≤ 9223372036854775807 := ⟨by omega, by omega⟩
    have o2 : -9223372036854775808 ≤ Q * W.getD t.i 0 ∧ Q * W.getD t.i 0 ≤ 9223372036854775807 := ⟨by omega, by omega⟩
    clear p0 p1 w2
    generalize t.w.getD (k + t.i) 0 - t.c - Q * W.getD t.i 0 = n at *
    refine ⟨⟨by omega, by omega⟩, ⟨by omega, by omega⟩, o1, by omega, o2, ⟨by omega, by omega⟩, fun hn => ?_, fun hn => ?_⟩
    · have hcb : carryB 1000000000 n = (-n + 1000000000 - 1).tdiv 1000000000 := by unfold carryB; rw [(ltB_iff _ _).2 hn]; rfl
      rw [hcb] at hs h0 h1
      generalize (-n + 1000000000 - 1).tdiv 1000000000 = C at *
      exact ⟨⟨by omega, by omega⟩, ⟨by omega, by omega⟩, ⟨by omega, by omega⟩, ⟨by omega, by omega⟩, ⟨by omega, by omega⟩, ⟨by omega, by omega⟩, ⟨by omega, by omega⟩, ⟨by omega, by omega⟩, ⟨by omega, by omega⟩, ⟨t.i + 1, C, _⟩, ⟨⟨⟨hs, by simp only; omega⟩, by simp only; omega⟩, rfl, by simp only; omega⟩, by simp, fun i j' _ => setI _ _ _ (by omega) i j'⟩
    · have hcb : carryB 1000000000 n = 0 := by unfold carryB; rw [show ltB n 0 = false from Bool.eq_false_iff.2 fun e => by have := (ltB_iff _ _).1 e; omega]; rfl
      rw [hcb] at hs h0 h1
      exact ⟨⟨by omega, by omega⟩, ⟨by omega, by omega⟩, ⟨by omega, by omega⟩, ⟨by omega, by omega⟩, ⟨t.i + 1, 0, _⟩, ⟨⟨⟨hs, by simp only; omega⟩, by simp only; omega⟩, rfl, by simp only; omega⟩, by simp, fun i j' _ => setI _ _ _ (by omega) i j'⟩
  have ti : t.i = W.length + 1 := by omega
  have tl := t1.len
  have t3 : TakI 1000000000 u W k Q (W.length + 1) t.w t.c := ti ▸ t1
  obtain ⟨t4, t5⟩ := t3.fits (by omega) (by omega : k ≤ u.length) hi0
  rw [vv] at t4 t5
  refine ⟨fun hc => ?_, fun hc => ?_⟩
  · have hlt := t5 hc
    have u0 := valL_nonneg (b := 1000000000) (by omega) (ui.drop k)
    have Qp : 0 < Q := by
      refine Decidable.byContradiction fun hn => ?_
      have : Q = 0 := by omega
      rw [this, Int.zero_mul] at hlt
      omega
    refine ⟨⟨by omega, by omega⟩, ⟨⟨0, 0, t.w⟩, ⟨⟨.start t1.in_ Q0, Nat.zero_le _⟩, rfl, rfl⟩, rfl, fun _ _ _ _ => rfl⟩, fun r ⟨r1, r2⟩ => ⟨fun hr => ?_, fun hr => ?_⟩⟩
    · obtain ⟨⟨b0, b1⟩, hs⟩ := r1.step (by omega) vi Q0 (by omega : k + r.i < t.w.length)
      have rl := r1.len
      have w1 := vi.get (by omega) r.i
      have w2 := r1.in_.get (by omega) (k + r.i)
      have p0 : 0 ≤ Q * W.getD r.i 0 := Int.mul_nonneg Q0 w1.1
      have p1 : Q * W.getD r.i 0 ≤ Q * 1000000000 := Int.mul_le_mul_of_nonneg_left (by omega) Q0
      have c0 := r1.c0
      have c1 := r1.c1
      have h0 := hs.c0
      have h1 := hs.c1
      refine ⟨⟨by omega, by omega⟩, ⟨by omega, by omega⟩, by omega, ⟨by omega, by omega⟩, ⟨by omega, by omega⟩, ⟨by omega, by omega⟩, ⟨by omega, by omega⟩, ⟨by omega, by omega⟩, ⟨by omega, by omega⟩, ⟨by omega, by omega⟩, ⟨r.i + 1, _, _⟩, ⟨⟨⟨hs, by simp only; omega⟩, by simp only; omega⟩, rfl, by simp only; omega⟩, by simp, fun i j' _ => setI _ _ _ (by omega) i j'⟩
    · have ri : r.i = W.length + 1 := by omega
      have r3 : r.w = u := RstI.end_ (by omega) ui (by omega : k ≤ u.length) hi0 t3 (ri ▸ r1 : RstI 1000000000 t.w W k Q (W.length + 1) r.w r.c)
      rw [r3]
      exact ⟨⟨by omega, by omega⟩, Q - 1, ⟨⟨⟨by omega, by omega, by rw [Int.sub_add_cancel]; exact hlt⟩, by omega⟩, rfl⟩, rfl, fun _ _ _ _ => rfl⟩
  · have hs := d1'.step (by omega) vi vv (by omega : k < m) Q0 Q2 t3 hc
    rw [vl] at hs
    exact ⟨⟨by omega, by omega⟩, ⟨by omega, by omega⟩, ⟨k, q.set k Q, t.w⟩, ⟨⟨⟨hs, by simp only; omega⟩, by simp only; omega⟩, by simp only⟩, ⟨rfl, fun _ _ _ _ => rfl⟩, by simp, fun i j' _ => setI _ _ _ (by omega) i j'⟩
theorem idivL_C (x : List Int) (y : List Int) (hx : InL 1000000000 x) (hy : InL 1000000000 y) (tx : trimL x = x) (ty : trimL y = y) (hn : y.length ≠ 0) (hlx : x.length ≤ 100000000) (hly : y.length ≤ 100000000) : PureCall Tryz.prog [] 232 [slE x, slE y] (.tup 2 (listFn [slE (limbs 1000000000 ((valL 1000000000 x).toNat / (valL 1000000000 y).toNat)), slE (limbs 1000000000 ((valL 1000000000 x).toNat % (valL 1000000000 y).toNat))])) :=
  pure_of_vc (T := Tdv) (an := idv_an x (valL 1000000000 x * dvF y) (valL 1000000000 y * dvF y) y.length (max ((prL x [dvF y]).length + 1) (x.length + 1) - y.length)) mixed Tdv_sound (Eq.mp (by kernel_rfl) (idivL_vc x y hx hy tx ty hn hlx hly))
theorem idivL_T : PureT Tryz.prog [] 232 idivL_t := by
  intro xs ps r h hp
  unfold idivL_t at h
  split at h
  · skip
    rename_i x_x x_y
    cases h
    obtain ⟨q0, q1, q2, q3, q4, q5, q6, q7, q8, -⟩ := allC hp
    exact weaken (ys := [slE (intsOf x_x), slE (intsOf x_y)]) ⟨slE_sound q0, slE_sound q1, trivial⟩ (idivL_C (intsOf x_x) (intsOf x_y) q2 q3 q4 q5 q6 q7 q8)
  · cases h
end Go.Te

namespace Go.Te
open Go Go.Sx Go.Proofs Go.Ar
set_option maxRecDepth 100000
set_option maxHeartbeats 4000000
theorem lenN {n k : Nat} (h : n < 10 ^ k) : (limbs 1000000000 n).length ≤ k := by
  refine limbs_len_le (b := 1000000000) (by omega) ?_
  have h2 : 10 ^ k ≤ 1000000000 ^ k := Nat.pow_le_pow_left (by omega) _
  exact_mod_cast Nat.lt_of_lt_of_le h h2
theorem big_a {a : Str} (h : intE a = 0) : (valI a).natAbs < 10 ^ 301 ∧ a.length ≤ 301 ∧ intB a = true := by
  obtain ⟨h1, h2⟩ := intE_zero.1 h
  have h3 := lenD_le a
  have h4 : 10 ^ a.length ≤ 10 ^ 301 := pw_le (a := a.length) (b := 301) (by omega)
  exact ⟨Nat.lt_of_lt_of_le (natV h1) h4, by omega, h1⟩
theorem sval_read {a : Str} (h : intB a = true) : sval (minB a) (limbs 1000000000 (valI a).natAbs) = valI a := by
  have hv : valL 1000000000 (limbs 1000000000 (valI a).natAbs) = ((valI a).natAbs : Int) := limbs_val (b := 1000000000) (by omega) _
  unfold sval
  rw [hv]
  rcases intB_cases h with ⟨r, rfl, h1, _, h3⟩ | ⟨h1, h3⟩
  · rw [show minB (45 :: r) = true from rfl, h3]; simp only [cond_true]; omega
  · have hm : minB a = false := by
      unfold minB
      rw [beq_eq_false_iff_ne]
      intro e
      have h0 := (digS_iff.1 h1).1
      have := (digS_iff.1 h1).2.1 _ (getD_mem (s := a) (i := 0) h0)
      rw [e] at this
      cases this
    rw [hm, h3]; simp only [cond_false]; omega
theorem sval_not (n : Bool) (l : List Int) : sval (!n) l = - sval n l := by unfold sval; cases n <;> simp
theorem sval_lim (n : Bool) {v : Int} (h : 0 ≤ v) : sval n (limbs 1000000000 v.toNat) = bif n then - v else v := by
  have hv : valL 1000000000 (limbs 1000000000 v.toNat) = (v.toNat : Int) := limbs_val (b := 1000000000) (by omega) _
  unfold sval
  rw [hv, Int.toNat_of_nonneg h]
theorem limN (n : Nat) : InL 1000000000 (limbs 1000000000 n) ∧ trimL (limbs 1000000000 n) = limbs 1000000000 n := ⟨limbs_in (b := 1000000000) (by omega) n, trim_limbs (b := 1000000000) (by omega) n⟩
theorem agD_big' (f : Bool) (l : List Int) : agD (AV.agg 2 fun i => [AV.v (Value.bool f), AV.xl false 1 l.length fun i j => AV.v (Value.int IntKind.i64 (l.getD i 0))][i]?.getD AV.junk) = (⟨f, l⟩ : Big) := agD_big f l
theorem agOk_big' (f : Bool) (l : List Int) : agOk Big (AV.agg 2 fun i => [AV.v (Value.bool f), AV.xl false 1 l.length fun i j => AV.v (Value.int IntKind.i64 (l.getD i 0))][i]?.getD AV.junk) = true := agOk_big f l
theorem agD_neg (f g : Bool) (l : List Int) (Z : Nat → AV) : agD (AV.agg 2 fun i => if i < 1 then AV.v (Value.bool f) else if i < 2 then listFn [AV.v (Value.bool g), AV.xl false 1 l.length fun i j => AV.v (Value.int IntKind.i64 (l.getD i 0))] i else Z i) = (⟨f, l⟩ : Big) := by
  show (⟨f, slD (slE l)⟩ : Big) = _
  rw [slD_slE]
theorem agOk_neg (f g : Bool) (l : List Int) (Z : Nat → AV) : agOk Big (AV.agg 2 fun i => if i < 1 then AV.v (Value.bool f) else if i < 2 then listFn [AV.v (Value.bool g), AV.xl false 1 l.length fun i j => AV.v (Value.int IntKind.i64 (l.getD i 0))] i else Z i) = true := by
  show (slOk Int (slE l)) = true
  rw [slOk_slE]
theorem agD_box (g : Bool) (l : List Int) (Z : Nat → AV) : agD (AV.agg 2 fun i => if i < 2 then listFn [AV.v (Value.bool g), AV.xl false 1 l.length fun i j => AV.v (Value.int IntKind.i64 (l.getD i 0))] i else Z i) = (⟨g, l⟩ : Big) := by
  show (⟨g, slD (slE l)⟩ : Big) = _
  rw [slD_slE]
theorem agOk_box (g : Bool) (l : List Int) (Z : Nat → AV) : agOk Big (AV.agg 2 fun i => if i < 2 then listFn [AV.v (Value.bool g), AV.xl false 1 l.length fun i j => AV.v (Value.int IntKind.i64 (l.getD i 0))] i else Z i) = true := by
  show (slOk Int (slE l)) = true
  rw [slOk_slE]
theorem op_ne {f : Int → Int → Int} {a b : Str} (h : bothE a b ≠ 0) : opS f a b = [] ∧ opE f a b = bothE a b := by
  have e : opE f a b = bothE a b := by unfold opE; rw [bne_iff_ne.2 h]; rfl
  refine ⟨?_, e⟩
  unfold opS
  rw [e, beq_eq_false_iff_ne.2 h]
  rfl
theorem op_eq {f : Int → Int → Int} {a b : Str} (h : bothE a b = 0) : opS f a b = resS (f (valI a) (valI b)) ∧ opE f a b = resE (f (valI a) (valI b)) := by
  have e : opE f a b = resE (f (valI a) (valI b)) := by unfold opE; rw [h]; rfl
  refine ⟨?_, e⟩
  unfold opS resS
  rw [e]
theorem res_small {n : Int} {k : Nat} (h0 : 0 < k) (hk : k ≤ 300) (h : n.natAbs < 10 ^ k) : resS n = Lib.itoa n ∧ resE n = 0 := by
  have h1 := nDg_le h0 h
  have e : resE n = 0 := by
    unfold resE
    rw [show Nat.blt 300 (nDg n) = false from Bool.eq_false_iff.2 fun e => by have := (blt_iff _ _).1 e; omega]
    rfl
  refine ⟨?_, e⟩
  unfold resS
  rw [e]
  rfl
theorem v18 {a : Str} (h : intB a = true) (hl : leB (a.length : Int) 18 = true) : -1000000000000000000 < valI a ∧ valI a < 1000000000000000000 := by
  have := valI_small h (k := 18) (by have := (leB_iff _ _).1 hl; omega)
  rw [show (10 : Int) ^ 18 = 1000000000000000000 from by decide] at this
  exact this
theorem add_ok {a : Str} (ha : intE a = 0) {n : Bool} {k : Nat} {w : Int} (hk : sval n (limbs 1000000000 k) = w) (hn : k < 10 ^ 301) :
    sval (adN ⟨minB a, limbs 1000000000 (valI a).natAbs⟩ ⟨n, limbs 1000000000 k⟩) (limbs 1000000000 (adV ⟨minB a, limbs 1000000000 (valI a).natAbs⟩ ⟨n, limbs 1000000000 k⟩).toNat) = valI a + w ∧
    (limbs 1000000000 (adV ⟨minB a, limbs 1000000000 (valI a).natAbs⟩ ⟨n, limbs 1000000000 k⟩).toNat).length ≤ 302 ∧ 0 ≤ adV ⟨minB a, limbs 1000000000 (valI a).natAbs⟩ ⟨n, limbs 1000000000 k⟩ := by
  obtain ⟨a1, a2, a3⟩ := big_a ha
  obtain ⟨s1, s2⟩ := sval_add (x := ⟨minB a, limbs 1000000000 (valI a).natAbs⟩) (y := ⟨n, limbs 1000000000 k⟩) (limN _).1 (limN _).1 (limN _).2 (limN _).2
  simp only [hk, sval_read a3] at s2
  have hw : w.natAbs = k := by
    have hv : valL 1000000000 (limbs 1000000000 k) = (k : Int) := limbs_val (b := 1000000000) (by omega) _
    unfold sval at hk
    rw [hv] at hk
    cases n <;> simp at hk <;> omega
  rw [sval_lim _ s1, s2]
  refine ⟨rfl, lenN ?_, s1⟩
  generalize adV ⟨minB a, limbs 1000000000 (valI a).natAbs⟩ ⟨n, limbs 1000000000 k⟩ = v at *
  have : v.toNat ≤ (valI a).natAbs + k := by
    cases hx : adN ⟨minB a, limbs 1000000000 (valI a).natAbs⟩ ⟨n, limbs 1000000000 k⟩ <;> rw [hx] at s2 <;> simp at s2 <;> omega
  have h3 : 10 ^ 302 = 10 ^ 301 * 10 := pw_succ 301 302 rfl
  generalize 10 ^ 301 = M at *
  omega
theorem bif_key : ∀ (s t : Bool) (A B : Int), (bif !(s == t) then -(A * B) else A * B) = (bif s then -A else A) * (bif t then -B else B) := by
  intro s t A B
  cases s <;> cases t <;> simp [Int.neg_mul, Int.mul_neg]
theorem valL_nat (n : Nat) : valL 1000000000 (limbs 1000000000 n) = (n : Int) := limbs_val (b := 1000000000) (by omega) _
theorem sval_mul {a b : Str} (ha : intB a = true) (hb : intB b = true) : sval (!(minB a == minB b)) (limbs 1000000000 (((valI a).natAbs : Int) * ((valI b).natAbs : Int)).toNat) = valI a * valI b := by
  have h1 := sval_read ha
  have h2 := sval_read hb
  unfold sval at h1 h2
  rw [valL_nat] at h1 h2
  rw [sval_lim _ (Int.mul_nonneg (by omega) (by omega)), bif_key, h1, h2]
def ccmp_t : List AV → Option (List Cond × AV)
  | [.v (.int .i64 x), .v (.int .i64 y)] => some ([], .i (cmpI x y))
  | _ => none
theorem ccmp_vc (x : Int) (y : Int) :
 let q1 := (IntKind.i64 = .i64 ∧ (0 : Int) = cmpI x y); let q2 := (IntKind.i64 = .i64 ∧ (-1 : Int) = cmpI x y); let q3 := (IntKind.i64 = .i64 ∧ (1 : Int) = cmpI x y); bndL [AV.v (Value.int .i64 x), AV.v (Value.int .i64 y)] → bsplit (x != x) (bsplit (y != y) q1 q2) (bsplit (y != y) q3 (bsplit (ltB x y) q2 (bsplit (ltB y x) q3 q1))) := by
  dsimp only
  intro hb
  simp only [sS, dS]
  unfold cmpI
  refine ⟨fun h => absurd rfl h, fun _ => ⟨fun h => absurd rfl h, fun _ => ⟨fun h => ?_, fun h => ⟨fun h2 => ?_, fun h2 => ?_⟩⟩⟩⟩
  · rw [(ltB_iff _ _).2 h]; rfl
  · rw [show ltB x y = false from Bool.eq_false_iff.2 fun e => by have := (ltB_iff _ _).1 e; omega, beq_eq_false_iff_ne.2 (by omega)]; rfl
  · rw [show x = y by omega, show ltB y y = false from Bool.eq_false_iff.2 fun e => by have := (ltB_iff _ _).1 e; omega, beq_self_eq_true]; rfl
theorem ccmp_C (x : Int) (y : Int) : PureCall Tryz.prog [] 131 [.i x, .i y] (.i (cmpI x y)) :=
  pure_of_vc (T := T0.body Tryz.prog [(195, .auto)]) (an := .auto) mixed (TbSound.body mixed tb0_sound _) (Eq.mp (by kernel_rfl) (ccmp_vc x y))
theorem ccmp_T : PureT Tryz.prog [] 131 ccmp_t := by
  intro xs ps r h hp
  unfold ccmp_t at h
  split at h
  · skip
    rename_i x y
    cases h
    exact weaken (ys := [.i x, .i y]) ⟨avM_refl _, avM_refl _, trivial⟩ (ccmp_C x y)
  · cases h
noncomputable def Tin0 (G : List (Nat × Obj)) : Tb := (((((TIt G).plus 146 iboth_t).plus 147 ismall_t).plus 150 iread_t).plus 149 iadd_t).plus 148 iresult_t
theorem Tin0_sound {G : List (Nat × Obj)} (hG : TabIn G) : TbSound Tryz.prog (Tin0 G) :=
  TbSound.plus (TbSound.plus (TbSound.plus (TbSound.plus (TbSound.plus (TIt_sound hG) (PureT.mono iboth_T)) (PureT.mono ismall_T)) (PureT.mono iread_T)) (PureT.mono iadd_T)) (iresult_T hG)
noncomputable def Tin (G : List (Nat × Obj)) : Tb := ((((Tin0 G).plus 203 itimes_t).plus 232 idivL_t).plus 206 icom_t).plus 131 ccmp_t
theorem Tin_sound {G : List (Nat × Obj)} (hG : TabIn G) : TbSound Tryz.prog (Tin G) := TbSound.plus (TbSound.plus (TbSound.plus (TbSound.plus (Tin0_sound hG) (PureT.mono itimes_T)) (PureT.mono idivL_T)) (PureT.mono icom_T)) (PureT.mono ccmp_T)
def iMul_t : List AV → Option (List Cond × AV)
  | [.str a, .str b] => some ([.p (a.length ≤ 4294967280), .p (b.length ≤ 4294967280)], .tup 2 (listFn [.str (opS (· * ·) a b), .i (opE (· * ·) a b)]))
  | _ => none
theorem iMul_vc (G : List (Nat × Obj)) (a : List UInt8) (b : List UInt8) (hla : a.length ≤ 4294967280) (hlb : b.length ≤ 4294967280) :
 let q1 := ((↑(List.length a) : Int) + (↑(List.length b) : Int)); let q3 := (bif leB (↑(List.length a) : Int) (18 : Int) && leB (↑(List.length b) : Int) (18 : Int) then valI a else (0 : Int)); let q2 := (q3 * bif leB (↑(List.length a) : Int) (18 : Int) && leB (↑(List.length b) : Int) (18 : Int) then valI b else (0 : Int)); let q6 := (limbs 1000000000 (Int.natAbs (valI a))); let q5 := (AV.xl false 1 (List.length q6) fun i j => AV.v (Value.int .i64 (List.getD q6 i Enc.dflt))); let q8 := (limbs 1000000000 (Int.natAbs (valI b))); let q7 := (AV.xl false 1 (List.length q8) fun i j => AV.v (Value.int
 .i64 (List.getD q8 i Enc.dflt))); let q9 := (intsOf q5); let q10 := (intsOf q7); let q12 := (limbs 1000000000 (Int.toNat (valL (1000000000 : Int) q9 * valL (1000000000 : Int) q10))); let q11 := (AV.agg 2 (listFn [AV.v (Value.bool !minB a == minB b), AV.xl false 1 (List.length q12) fun i j => AV.v (Value.int .i64 (List.getD q12 i Enc.dflt))])); let q14 := (agD q11); let q13 := (Big.l q14); let q15 := (sval (Big.neg q14) q13); let q4 := (intB a = true ∧ List.length a ≤ 100000000 ∧ intB b = true ∧ List.length b ≤ 100000000 ∧ bsplit (slOk Int q5) (bsplit (slOk Int q7) ((∀ (x : Int), List.Mem x q9 →
 (0 : Int) ≤ x ∧ x < (1000000000 : Int)) ∧ (∀ (x : Int), List.Mem x q10 → (0 : Int) ≤ x ∧ x < (1000000000 : Int)) ∧ List.length q9 ≤ 1000000000 ∧ List.length q10 ≤ 1000000000 ∧ bsplit (agOk Big q11) ((∀ (x : Int), List.Mem x q13 → (0 : Int) ≤ x ∧ x < (1000000000 : Int)) ∧ trimL q13 = Big.l q14 ∧ List.length q13 ≤ 100000000 ∧ 2 = List.length [AV.junk, AV.junk] ∧ (True ∧ resS q15 = opS (fun (x1 x2 : Int) => x1 * x2) a b) ∧ IntKind.i64 = .i64 ∧ resE q15 = opE (fun (x1 x2 : Int) => x1 * x2) a b) False) False) False); bndL [AV.str a, AV.str b] → List.length a ≤ 4294967280 ∧ List.length b ≤ 4294967280
 ∧ bsplit (bothE a b != (0 : Int)) (2 = List.length [AV.junk, AV.junk] ∧ (True ∧ Array.toList (ByteArray.data (ByteArray.mk #[])) = opS (fun (x1 x2 : Int) => x1 * x2) a b) ∧ IntKind.i64 = .i64 ∧ bothE a b = opE (fun (x1 x2 : Int) => x1 * x2) a b) (bsplit (DB.db (inK .i64 q1)) (bsplit (leB q1 (18 : Int)) (intB a = true ∧ intB b = true ∧ (18 : Int) = (18 : Int) ∧ bsplit (leB (↑(List.length a) : Int) (18 : Int) && leB (↑(List.length b) : Int) (18 : Int)) (bsplit (DB.db (inK .i64 q2)) ((((-9223372036854775808 : Int) ≤ q3 * bif leB (↑(List.length a) : Int) (18 : Int) && leB (↑(List.length b) : Int)
 (18 : Int) then valI b else (0 : Int)) ∧ q2 ≤ (9223372036854775807 : Int)) ∧ 2 = List.length [AV.junk, AV.junk] ∧ (True ∧ Lib.itoa q2 = opS (fun (x1 x2 : Int) => x1 * x2) a b) ∧ IntKind.i64 = .i64 ∧ (0 : Int) = opE (fun (x1 x2 : Int) => x1 * x2) a b) False) q4) q4) False) := by
  dsimp only
  intro hb
  have e0 : (Enc.dflt : Int) = 0 := rfl
  simp only [↓vc_db, ↓vc_gdb, row_one]
  simp only [sS, dS, e0, agD_big', agOk_big', agD_big, agOk_big, agD_neg, agOk_neg, agD_box, agOk_box, vc_tt]
  simp only [valL_nat]
  refine ⟨by omega, by omega, fun hE => ⟨rfl, (op_ne hE).1.symm, (op_ne hE).2.symm⟩, fun hE => ?_⟩
  obtain ⟨hA, hB⟩ := bothE_zero hE
  obtain ⟨a1, a2, a3⟩ := big_a hA
  obtain ⟨b1, b2, b3⟩ := big_a hB
  rw [(op_eq hE).1, (op_eq hE).2, sval_mul a3 b3]
  have hl : (limbs 1000000000 (((valI a).natAbs : Int) * ((valI b).natAbs : Int)).toNat).length ≤ 602 := by
    refine lenN ?_
    rw [show (((valI a).natAbs : Int) * ((valI b).natAbs : Int)).toNat = (valI a).natAbs * (valI b).natAbs from by rw [← Int.natCast_mul]; rfl, show 10 ^ 602 = 10 ^ 301 * 10 ^ 301 from pw_two 301 602 rfl]
    have hm := Nat.mul_lt_mul'' a1 b1
    exact hm
  have la := lenN a1
  have lb := lenN b1
  refine ⟨⟨by omega, by omega⟩, fun h18 => ⟨a3, b3, bsplit_iff.2 ⟨fun c => ?_, fun c => ?_⟩⟩, fun h18 => ?_⟩
  · rw [c]
    rw [Bool.and_eq_true] at c
    simp only [cond_true]
    have hm : (valI a * valI b).natAbs < 10 ^ 18 := by
      rw [Int.natAbs_mul]
      have h1 := Nat.mul_lt_mul'' (natV a3) (natV b3)
      rw [← Nat.pow_add] at h1
      exact Nat.lt_of_lt_of_le h1 (Nat.pow_le_pow_right (by omega) (by omega))
    obtain ⟨r1, r2⟩ := res_small (n := valI a * valI b) (k := 18) (by omega) (by omega) hm
    rw [show 10 ^ 18 = 1000000000000000000 from by decide] at hm
    exact ⟨⟨by omega, by omega⟩, ⟨by omega, by omega⟩, rfl, r1.symm, r2.symm⟩
  · exact ⟨a3, by omega, b3, by omega, (limN _).1, (limN _).1, by omega, by omega, (limN _).1, (limN _).2, by omega, rfl, rfl, rfl⟩
  · exact ⟨a3, by omega, b3, by omega, (limN _).1, (limN _).1, by omega, by omega, (limN _).1, (limN _).2, by omega, rfl, rfl, rfl⟩
theorem iMul_C {G : List (Nat × Obj)} (hG : TabIn G) (a : List UInt8) (b : List UInt8) (hla : a.length ≤ 4294967280) (hlb : b.length ≤ 4294967280) : PureCall Tryz.prog G 145 [.str a, .str b] (.tup 2 (listFn [.str (opS (· * ·) a b), .i (opE (· * ·) a b)])) :=
  pure_of_vc (T := Tin G) (an := .auto) mixed (Tin_sound hG) (Eq.mp (by kernel_rfl) (iMul_vc G a b hla hlb))
theorem iMul_T {G : List (Nat × Obj)} (hG : TabIn G) : PureT Tryz.prog G 145 iMul_t := by
  intro xs ps r h hp
  unfold iMul_t at h
  split at h
  · skip
    rename_i a b
    cases h
    obtain ⟨q0, q1, -⟩ := allC hp
    exact weaken (ys := [.str a, .str b]) ⟨avM_refl _, avM_refl _, trivial⟩ (iMul_C hG a b q0 q1)
  · cases h
def iCmp_t : List AV → Option (List Cond × AV)
  | [.str a, .str b] => some ([.p (a.length ≤ 4294967280), .p (b.length ≤ 4294967280)], .tup 2 (listFn [.i (cmpV a b), .i (bothE a b)]))
  | _ => none
theorem iCmp_vc (G : List (Nat × Obj)) (a : List UInt8) (b : List UInt8) (hla : a.length ≤ 4294967280) (hlb : b.length ≤ 4294967280) :
 let q1 := (True ∧ IntKind.i64 = .i64 ∧ (0 : Int) = cmpV a b); let q3 := (limbs 1000000000 (Int.natAbs (valI a))); let q4 := (Value.agg #[Value.bool false, Value.slice (Non Addr) 0 0]); let q2 := (AV.agg 2 fun (i : Nat) => if 0 ≤ 0 + i ∧ 0 + i < 2 then listFn [AV.v (Value.bool (minB a)), AV.xl false 1 (List.length q3) fun i j => AV.v (Value.int .i64 (List.getD q3 i Enc.dflt))] (0 + i - 0) else zcell q4 (0 + i)); let q6 := (limbs 1000000000 (Int.natAbs (valI b))); let q5 := (AV.agg 2 fun (i : Nat) => if 0 ≤ 0 + i ∧ 0 + i < 1 then AV.v (Value.bool !minB b) else if 0 ≤ 0 + i ∧ 0 + i < 2 then listFn
 [AV.v (Value.bool (minB b)), AV.xl false 1 (List.length q6) fun i j => AV.v (Value.int .i64 (List.getD q6 i Enc.dflt))] (0 + i - 0) else zcell q4 (0 + i)); let q8 := (agD q2); let q7 := (Big.l q8); let q10 := (agD q5); let q9 := (Big.l q10); bndL [AV.str a, AV.str b] → List.length a ≤ 4294967280 ∧ List.length b ≤ 4294967280 ∧ bsplit (bothE a b != (0 : Int)) (2 = List.length [AV.junk, AV.junk] ∧ q1 ∧ IntKind.i64 = .i64 ∧ bothE a b = bothE a b) (intB a = true ∧ intB b = true ∧ (18 : Int) = (18 : Int) ∧ bsplit (leB (↑(List.length a) : Int) (18 : Int) && leB (↑(List.length b) : Int) (18 : Int)) (2
 = List.length [AV.junk, AV.junk] ∧ (True ∧ IntKind.i64 = .i64 ∧ cmpI (bif leB (↑(List.length a) : Int) (18 : Int) && leB (↑(List.length b) : Int) (18 : Int) then valI a else (0 : Int)) (bif leB (↑(List.length a) : Int) (18 : Int) && leB (↑(List.length b) : Int) (18 : Int) then valI b else (0 : Int)) = cmpV a b) ∧ IntKind.i64 = .i64 ∧ (0 : Int) = bothE a b) (intB a = true ∧ List.length a ≤ 100000000 ∧ intB b = true ∧ List.length b ≤ 100000000 ∧ bsplit (agOk Big q2) (bsplit (agOk Big q5) ((∀ (x : Int), List.Mem x q7 → (0 : Int) ≤ x ∧ x < (1000000000 : Int)) ∧ (∀ (x : Int), List.Mem x q9 → (0 :
 Int) ≤ x ∧ x < (1000000000 : Int)) ∧ trimL q7 = Big.l q8 ∧ trimL q9 = Big.l q10 ∧ List.length q7 ≤ 1000000000 ∧ List.length q9 ≤ 1000000000 ∧ bsplit ((↑(List.length (limbs 1000000000 (Int.toNat (adV q8 q10)))) : Int) == (0 : Int)) (2 = List.length [AV.junk, AV.junk] ∧ q1 ∧ IntKind.i64 = .i64 ∧ (0 : Int) = bothE a b) (bsplit (adN q8 q10) (2 = List.length [AV.junk, AV.junk] ∧ (True ∧ IntKind.i64 = .i64 ∧ (-1 : Int) = cmpV a b) ∧ IntKind.i64 = .i64 ∧ (0 : Int) = bothE a b) (2 = List.length [AV.junk, AV.junk] ∧ (True ∧ IntKind.i64 = .i64 ∧ (1 : Int) = cmpV a b) ∧ IntKind.i64 = .i64 ∧ (0 : Int) =
 bothE a b))) False) False)) := by
  dsimp only
  intro hb
  have e0 : (Enc.dflt : Int) = 0 := rfl
  simp only [↓vc_db, ↓vc_gdb, row_one]
  simp only [sS, dS, e0, agD_big', agOk_big', agD_big, agOk_big, agD_neg, agOk_neg, agD_box, agOk_box, vc_tt]
  have hV : bothE a b = 0 → cmpV a b = cmpI (valI a) (valI b) := fun h => by unfold cmpV; rw [h]; rfl
  refine ⟨by omega, by omega, fun hE => ⟨rfl, ?_⟩, fun hE => ?_⟩
  · unfold cmpV; rw [bne_iff_ne.2 hE]; rfl
  obtain ⟨hA, hB⟩ := bothE_zero hE
  obtain ⟨a1, a2, a3⟩ := big_a hA
  obtain ⟨b1, b2, b3⟩ := big_a hB
  rw [hV hE]
  refine ⟨a3, b3, bsplit_iff.2 ⟨fun c => ?_, fun c => ?_⟩⟩
  · rw [c]
    exact ⟨rfl, rfl, hE.symm⟩
  · have hs : sval (!minB b) (limbs 1000000000 (valI b).natAbs) = - valI b := by rw [sval_not, sval_read b3]
    obtain ⟨q1, q2, q3⟩ := add_ok hA hs b1
    have la := lenN a1
    have lb := lenN b1
    rw [sval_lim _ q3] at q1
    refine ⟨a3, by omega, b3, by omega, (limN _).1, (limN _).1, (limN _).2, (limN _).2, by omega, by omega, fun h0 => ?_, fun h0 => bsplit_iff.2 ⟨fun hn => ?_, fun hn => ?_⟩⟩
    all_goals
      generalize adV ⟨minB a, limbs 1000000000 (valI a).natAbs⟩ ⟨!minB b, limbs 1000000000 (valI b).natAbs⟩ = v at *
      generalize adN ⟨minB a, limbs 1000000000 (valI a).natAbs⟩ ⟨!minB b, limbs 1000000000 (valI b).natAbs⟩ = n at *
    · have h1 := limbs_nil (b := 1000000000) (n := v.toNat) (by omega) (by omega)
      have : valI a = valI b := by cases n <;> simp at q1 <;> omega
      unfold cmpI
      rw [this, show ltB (valI b) (valI b) = false from Bool.eq_false_iff.2 fun e => by have := (ltB_iff _ _).1 e; omega, beq_self_eq_true]
      exact ⟨rfl, rfl, hE.symm⟩
    all_goals
      have h1 : v.toNat ≠ 0 := fun e => h0 (by rw [e, limbs_zero]; rfl)
      rw [hn] at q1
      unfold cmpI
    · rw [cond_true] at q1
      rw [(ltB_iff _ _).2 (show valI a < valI b by omega)]
      exact ⟨rfl, rfl, hE.symm⟩
    · rw [cond_false] at q1
      rw [show ltB (valI a) (valI b) = false from Bool.eq_false_iff.2 fun e => by have := (ltB_iff _ _).1 e; omega, beq_eq_false_iff_ne.2 (show valI a ≠ valI b by omega)]
      exact ⟨rfl, rfl, hE.symm⟩
theorem iCmp_C {G : List (Nat × Obj)} (hG : TabIn G) (a : List UInt8) (b : List UInt8) (hla : a.length ≤ 4294967280) (hlb : b.length ≤ 4294967280) : PureCall Tryz.prog G 134 [.str a, .str b] (.tup 2 (listFn [.i (cmpV a b), .i (bothE a b)])) :=
  pure_of_vc (T := Tin G) (an := .auto) mixed (Tin_sound hG) (Eq.mp (by kernel_rfl) (iCmp_vc G a b hla hlb))
theorem iCmp_T {G : List (Nat × Obj)} (hG : TabIn G) : PureT Tryz.prog G 134 iCmp_t := by
  intro xs ps r h hp
  unfold iCmp_t at h
  split at h
  · skip
    rename_i a b
    cases h
    obtain ⟨q0, q1, -⟩ := allC hp
    exact weaken (ys := [.str a, .str b]) ⟨avM_refl _, avM_refl _, trivial⟩ (iCmp_C hG a b q0 q1)
  · cases h
end Go.Te

namespace Go.Te
open Go Go.Sx Go.Proofs Go.Ar
set_option maxRecDepth 100000
set_option maxHeartbeats 4000000
theorem sval_nat (n : Bool) (k : Nat) : sval n (limbs 1000000000 k) = bif n then -(k : Int) else k := by unfold sval; rw [valL_nat]
theorem big_b {a : Str} (h : intE a = 0) : (valI a).natAbs < 10 ^ 300 := by
  obtain ⟨h1, h2⟩ := intE_zero.1 h
  rw [lenD_eq h1] at h2
  exact (nDigits_le_iff (k := 300) (u := (valI a).natAbs) (by omega)).1 h2
theorem agD_z (l : List Int) : agD (AV.agg 2 (listFn [AV.v ((Value.agg #[Value.bool false, Value.slice none 0 0]).cells.getD 0 undef), AV.xl false 1 l.length fun i j => AV.v (Value.int IntKind.i64 (l.getD i 0))])) = (⟨false, l⟩ : Big) := agD_big false l
theorem agOk_z (l : List Int) : agOk Big (AV.agg 2 (listFn [AV.v ((Value.agg #[Value.bool false, Value.slice none 0 0]).cells.getD 0 undef), AV.xl false 1 l.length fun i j => AV.v (Value.int IntKind.i64 (l.getD i 0))])) = true := agOk_big false l
structure GiS where
  x : Int
  y : Int
structure GiL where
  x : Nat
  y : Nat
def iGcd_an (a b : Str) : Ann :=
  .two .auto (.two .auto (.two (.two .auto (.two .auto (.two (.two (.one (.loop GiS (fun σ z => [(7, .i z.x), (8, .i z.y)]) (fun σ z => []) 0 (fun σ z => Nat.gcd z.x.natAbs z.y.natAbs = gcdN a b ∧ z.x.natAbs ≤ 1000000000000000000 ∧ z.y.natAbs ≤ 1000000000000000000) (fun σ z => z.y.natAbs) .auto)) .auto) .auto))) (.two .auto (.two (.one (.loop GiL (fun σ z => [(10, slE (limbs 1000000000 z.x)), (11, slE (limbs 1000000000 z.y))]) (fun σ z => []) 0 (fun σ z => Nat.gcd z.x z.y = gcdN a b ∧ (limbs 1000000000 z.x).length ≤ 100000000 ∧ (limbs 1000000000 z.y).length ≤ 100000000) (fun σ z => z.y) .auto)) .auto))))
def iGcd_t : List AV → Option (List Cond × AV)
  | [.str a, .str b] => some ([.p (a.length ≤ 4294967280), .p (b.length ≤ 4294967280)], .tup 2 (listFn [.str (bif bothE a b != 0 then [] else Lib.itoa (gcdN a b : Int)), .i (bothE a b)]))
  | _ => none
theorem iGcd_vc (G : List (Nat × Obj)) (a : List UInt8) (b : List UInt8) (hla : a.length ≤ 4294967280) (hlb : b.length ≤ 4294967280) :
 let q2 := (limbs 1000000000 (Int.natAbs (valI a))); let q3 := (limbs 1000000000 (Int.natAbs (valI b))); bndL [AV.str a, AV.str b] → List.length a ≤ 4294967280 ∧ List.length b ≤ 4294967280 ∧ bsplit (bothE a b != (0 : Int)) (2 = List.length [AV.junk, AV.junk] ∧ (True ∧ Array.toList (ByteArray.data (ByteArray.mk #[])) = bif bothE a b != (0 : Int) then [] else Lib.itoa (↑(gcdN a b) : Int)) ∧ IntKind.i64 = .i64 ∧ bothE a b = bothE a b) (intB a = true ∧ intB b = true ∧ (18 : Int) = (18 : Int) ∧ bsplit (leB (↑(List.length a) : Int) (18 : Int) && leB (↑(List.length b) : Int) (18 : Int)) ((∃ (z : GiS),
 ((Nat.gcd (Int.natAbs (GiS.x z)) (Int.natAbs (GiS.y z)) = gcdN a b ∧ Int.natAbs (GiS.x z) ≤ 1000000000000000000 ∧ Int.natAbs (GiS.y z) ≤ 1000000000000000000) ∧ (IntKind.i64 = .i64 ∧ (bif leB (↑(List.length a) : Int) (18 : Int) && leB (↑(List.length b) : Int) (18 : Int) then valI a else (0 : Int)) = GiS.x z) ∧ IntKind.i64 = .i64 ∧ (bif leB (↑(List.length a) : Int) (18 : Int) && leB (↑(List.length b) : Int) (18 : Int) then valI b else (0 : Int)) = GiS.y z) ∧ True) ∧ ∀ (z : GiS), let q1 := (if -GiS.x z > GiS.x z then -GiS.x z else GiS.x z); Nat.gcd (Int.natAbs (GiS.x z)) (Int.natAbs (GiS.y z)) =
 gcdN a b ∧ Int.natAbs (GiS.x z) ≤ 1000000000000000000 ∧ Int.natAbs (GiS.y z) ≤ 1000000000000000000 → bsplit (GiS.y z != (0 : Int)) (bsplit (DB.db (GiS.y z ≠ (0 : Int))) (∃ (z' : GiS), (((Nat.gcd (Int.natAbs (GiS.x z')) (Int.natAbs (GiS.y z')) = gcdN a b ∧ Int.natAbs (GiS.x z') ≤ 1000000000000000000 ∧ Int.natAbs (GiS.y z') ≤ 1000000000000000000) ∧ Int.natAbs (GiS.y z') < Int.natAbs (GiS.y z)) ∧ (IntKind.i64 = .i64 ∧ GiS.y z = GiS.x z') ∧ IntKind.i64 = .i64 ∧ Int.tmod (GiS.x z) (GiS.y z) = GiS.y z') ∧ True) False) (bsplit (DB.db (inK .i64 (-GiS.x z))) ((((-9223372036854775808 : Int) ≤ if -GiS.x z
 > GiS.x z then -GiS.x z else GiS.x z) ∧ q1 ≤ (9223372036854775807 : Int)) ∧ 2 = List.length [AV.junk, AV.junk] ∧ (True ∧ Lib.itoa q1 = bif bothE a b != (0 : Int) then [] else Lib.itoa (↑(gcdN a b) : Int)) ∧ IntKind.i64 = .i64 ∧ (0 : Int) = bothE a b) False)) (intB a = true ∧ List.length a ≤ 100000000 ∧ intB b = true ∧ List.length b ≤ 100000000 ∧ (∃ (z : GiL), ((Nat.gcd (GiL.x z) (GiL.y z) = gcdN a b ∧ List.length (limbs 1000000000 (GiL.x z)) ≤ 100000000 ∧ List.length (limbs 1000000000 (GiL.y z)) ≤ 100000000) ∧ avM (AV.xl false 1 (List.length q2) fun i j => AV.v (Value.int .i64 (List.getD q2 i
 Enc.dflt))) (AV.xl false 1 (List.length (limbs 1000000000 (GiL.x z))) fun i j => AV.v (Value.int .i64 (List.getD (limbs 1000000000 (GiL.x z)) i Enc.dflt))) ∧ (false = true → false = true) ∧ 1 = 1 ∧ List.length (limbs 1000000000 (GiL.y z)) = List.length q3 ∧ ∀ (i j : Nat), i < List.length q3 → j < 1 → IntKind.i64 = .i64 ∧ List.getD q3 i Enc.dflt = List.getD (limbs 1000000000 (GiL.y z)) i Enc.dflt) ∧ True) ∧ ∀ (z : GiL), let q4 := (List.length (limbs 1000000000 (GiL.y z))); let q6 := (List.length (limbs 1000000000 (GiL.x z))); let q5 := (AV.xl false 1 q6 fun i j => AV.v (Value.int .i64 (List.getD
 (limbs 1000000000 (GiL.x z)) i Enc.dflt))); let q7 := (AV.xl false 1 q4 fun i j => AV.v (Value.int .i64 (List.getD (limbs 1000000000 (GiL.y z)) i Enc.dflt))); let q8 := (intsOf q5); let q9 := (intsOf q7); let q10 := (limbs 1000000000 (Int.toNat (valL (1000000000 : Int) q8) % Int.toNat (valL (1000000000 : Int) q9))); let q11 := (AV.agg 2 (listFn [AV.v (Array.getD (Value.cells (Value.agg #[Value.bool false, Value.slice (Non Addr) 0 0])) 0 undef), AV.xl false 1 q6 fun i j => AV.v (Value.int .i64 (List.getD (limbs 1000000000 (GiL.x z)) i Enc.dflt))])); let q13 := (agD q11); let q12 := (Big.l q13);
 let q14 := (sval (Big.neg q13) q12); Nat.gcd (GiL.x z) (GiL.y z) = gcdN a b ∧ List.length (limbs 1000000000 (GiL.x z)) ≤ 100000000 ∧ List.length (limbs 1000000000 (GiL.y z)) ≤ 100000000 → bsplit (ltB (0 : Int) (↑q4 : Int)) (bsplit (slOk Int q5) (bsplit (slOk Int q7) ((∀ (x : Int), List.Mem x q8 → (0 : Int) ≤ x ∧ x < (1000000000 : Int)) ∧ (∀ (x : Int), List.Mem x q9 → (0 : Int) ≤ x ∧ x < (1000000000 : Int)) ∧ trimL q8 = intsOf q5 ∧ trimL q9 = intsOf q7 ∧ List.length q9 ≠ 0 ∧ List.length q8 ≤ 100000000 ∧ List.length q9 ≤ 100000000 ∧ ∃ (z' : GiL), (((Nat.gcd (GiL.x z') (GiL.y z') = gcdN a b ∧
 List.length (limbs 1000000000 (GiL.x z')) ≤ 100000000 ∧ List.length (limbs 1000000000 (GiL.y z')) ≤ 100000000) ∧ GiL.y z' < GiL.y z) ∧ avM q7 (AV.xl false 1 (List.length (limbs 1000000000 (GiL.x z'))) fun i j => AV.v (Value.int .i64 (List.getD (limbs 1000000000 (GiL.x z')) i Enc.dflt))) ∧ (false = true → false = true) ∧ 1 = 1 ∧ List.length (limbs 1000000000 (GiL.y z')) = List.length q10 ∧ ∀ (i j : Nat), i < List.length q10 → j < 1 → IntKind.i64 = .i64 ∧ List.getD q10 i Enc.dflt = List.getD (limbs 1000000000 (GiL.y z')) i Enc.dflt) ∧ True) False) False) (bsplit (agOk Big q11) ((∀ (x : Int),
 List.Mem x q12 → (0 : Int) ≤ x ∧ x < (1000000000 : Int)) ∧ trimL q12 = Big.l q13 ∧ List.length q12 ≤ 100000000 ∧ 2 = List.length [AV.junk, AV.junk] ∧ (True ∧ resS q14 = bif bothE a b != (0 : Int) then [] else Lib.itoa (↑(gcdN a b) : Int)) ∧ IntKind.i64 = .i64 ∧ resE q14 = bothE a b) False))) := by
  dsimp only
  intro hb
  have e0 : (Enc.dflt : Int) = 0 := rfl
  simp only [↓vc_db, ↓vc_gdb, row_one]
  simp only [sS, dS, e0, agD_big', agOk_big', agD_big, agOk_big, agD_neg, agOk_neg, agD_box, agOk_box, vc_tt, int1, valL_nat, val1, agD_z, agOk_z]
  refine ⟨by omega, by omega, fun hE => ⟨rfl, by rw [bne_iff_ne.2 hE]; rfl⟩, fun hE => ?_⟩
  obtain ⟨hA, hB⟩ := bothE_zero hE
  obtain ⟨a1, a2, a3⟩ := big_a hA
  obtain ⟨b1, b2, b3⟩ := big_a hB
  have la := lenN a1
  have lb := lenN b1
  have gl : gcdN a b ≤ (valI a).natAbs + (valI b).natAbs := by
    unfold gcdN
    by_cases h : (valI a).natAbs = 0
    · rw [h, Nat.gcd_zero_left]; omega
    · exact Nat.le_trans (Nat.le_of_dvd (by omega) (Nat.gcd_dvd_left _ _)) (by omega)
  have a4 := big_b hA
  have b4 := big_b hB
  have gl3 : gcdN a b < 10 ^ 300 := by
    unfold gcdN
    by_cases h : (valI a).natAbs = 0
    · rw [h, Nat.gcd_zero_left]; exact b4
    · exact Nat.lt_of_le_of_lt (Nat.le_of_dvd (by omega) (Nat.gcd_dvd_left _ _)) a4
  rw [hE]
  simp only [bne_self_eq_false, cond_false]
  refine ⟨a3, b3, bsplit_iff.2 ⟨fun c => ?_, fun c => ?_⟩⟩
  · rw [c]
    rw [Bool.and_eq_true] at c
    have x1 := v18 a3 c.1
    have x2 := v18 b3 c.2
    simp only [cond_true]
    refine ⟨⟨⟨valI a, valI b⟩, ⟨rfl, by simp only; omega, by simp only; omega⟩, rfl, rfl⟩, fun z ⟨z1, z2, z3⟩ => ⟨fun hy => ⟨hy, ⟨z.y, z.x.tmod z.y⟩, ⟨⟨?_, z3, ?_⟩, ?_⟩, rfl, rfl⟩, fun hy => ?_⟩⟩
    · rw [Int.natAbs_tmod, ← gcd_step (y := z.y.natAbs) (by omega), z1]
    · rw [Int.natAbs_tmod]
      have : z.x.natAbs % z.y.natAbs ≤ z.x.natAbs := Nat.mod_le _ _
      omega
    · rw [Int.natAbs_tmod]
      exact Nat.mod_lt _ (by omega)
    · rw [hy, Int.natAbs_zero, Nat.gcd_zero_right] at z1
      rw [nat_abs_if, z1]
      rw [z1] at z2
      exact ⟨⟨by omega, by omega⟩, ⟨by omega, by omega⟩, rfl, rfl, trivial⟩
  · refine ⟨a3, by omega, b3, by omega, ⟨⟨(valI a).natAbs, (valI b).natAbs⟩, ⟨rfl, by simp only; omega, by simp only; omega⟩, avM_refl _, fun h => h, rfl, fun _ _ _ _ => rfl⟩, fun z ⟨z1, z2, z3⟩ => ⟨fun hy => ?_, fun hy => ?_⟩⟩
    · have hy0 : z.y ≠ 0 := fun e => by rw [e, limbs_zero] at hy; exact absurd hy (by decide)
      have hm : z.x % z.y < z.y := Nat.mod_lt _ (by omega)
      have hlen := limbs_len_mono (b := 1000000000) (m := z.x % z.y) (n := z.y) (by omega) (by omega)
      exact ⟨(limN _).1, (limN _).1, (limN _).2, (limN _).2, by omega, z2, z3, ⟨z.y, z.x % z.y⟩, ⟨⟨by rw [← gcd_step hy0]; exact z1, z3, by simp only; omega⟩, hm⟩, avM_refl _, fun h => h, rfl, fun _ _ _ _ => rfl⟩
    · have hy0 := limbs_nil (b := 1000000000) (n := z.y) (by omega) (by omega)
      rw [hy0, Nat.gcd_zero_right] at z1
      rw [sval_nat, cond_false, z1]
      rw [z1] at z2
      obtain ⟨r1, r2⟩ := res_small (n := (gcdN a b : Int)) (k := 300) (by omega) (by omega) (by rw [Int.natAbs_natCast]; exact gl3)
      rw [r1, r2]
      exact ⟨(limN _).1, (limN _).2, z2, rfl, rfl, rfl⟩
theorem iGcd_C {G : List (Nat × Obj)} (hG : TabIn G) (a : List UInt8) (b : List UInt8) (hla : a.length ≤ 4294967280) (hlb : b.length ≤ 4294967280) : PureCall Tryz.prog G 191 [.str a, .str b] (.tup 2 (listFn [.str (bif bothE a b != 0 then [] else Lib.itoa (gcdN a b : Int)), .i (bothE a b)])) :=
  pure_of_vc (T := Tin G) (an := iGcd_an a b) mixed (Tin_sound hG) (Eq.mp (by kernel_rfl) (iGcd_vc G a b hla hlb))
theorem iGcd_T {G : List (Nat × Obj)} (hG : TabIn G) : PureT Tryz.prog G 191 iGcd_t := by
  intro xs ps r h hp
  unfold iGcd_t at h
  split at h
  · skip
    rename_i a b
    cases h
    obtain ⟨q0, q1, -⟩ := allC hp
    exact weaken (ys := [.str a, .str b]) ⟨avM_refl _, avM_refl _, trivial⟩ (iGcd_C hG a b q0 q1)
  · cases h
end Go.Te
