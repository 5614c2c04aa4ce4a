/- integer: write, result; strings.Repeat of the digit 0. -/
import Derived.Test.YtdkpceodckdcfaaGreatDoorTeIc
import Derived.Test.YtdkpceodckdcfaaGreatDoorTeJ
set_option linter.unusedSimpArgs false
set_option linter.unusedVariables false
namespace Go.Te
open Go Go.Sx Go.Proofs Go.Ar Go.Lib
set_option maxRecDepth 100000
set_option maxHeartbeats 4000000
def rep_t : List AV → Option (List Cond × AV)
  | [.str s, .v (.int .i64 k)] => some ([.b (s == [48]), .p (0 ≤ k ∧ k ≤ 8)], .str (List.replicate k.toNat 48))
  | _ => none
theorem rq0_vc  :
 True := by
  trivial
theorem rq1_vc  :
 True := by
  trivial
theorem rq2_vc  :
 True := by
  trivial
theorem rq3_vc  :
 True := by
  trivial
theorem rq4_vc  :
 True := by
  trivial
theorem rq5_vc  :
 True := by
  trivial
theorem rq6_vc  :
 True := by
  trivial
theorem rq7_vc  :
 True := by
  trivial
theorem rq8_vc  :
 True := by
  trivial
theorem repC {k : Int} {n : Nat} (e : k = n) (h : vcFnC Tryz.prog (T0.deep Tryz.prog 5) 240 .auto [.str [48], .i k] (isS (List.replicate n 48))) : PureCall Tryz.prog [] 240 [.str [48], .i k] (.str (List.replicate k.toNat 48)) := by
  subst e
  exact pure_of_vcC mixed (TbSound.deep mixed tb0_sound 5) isS_avM h
theorem rep_T : PureT Tryz.prog [] 240 rep_t := by
  intro xs ps r h hp
  unfold rep_t at h
  split at h
  · rename_i s k
    cases h
    have q : (s == [48]) = true := hp _ List.mem_cons_self
    have q1 : 0 ≤ k ∧ k ≤ 8 := hp _ (List.mem_cons_of_mem _ List.mem_cons_self)
    obtain rfl := eq_of_beq q
    obtain ⟨n, rfl⟩ : ∃ n : Nat, k = n := ⟨k.toNat, by omega⟩
    match n, q1 with
    | 0, _ => exact repC rfl (Eq.mp (by kernel_rfl) rq0_vc)
    | 1, _ => exact repC rfl (Eq.mp (by kernel_rfl) rq1_vc)
    | 2, _ => exact repC rfl (Eq.mp (by kernel_rfl) rq2_vc)
    | 3, _ => exact repC rfl (Eq.mp (by kernel_rfl) rq3_vc)
    | 4, _ => exact repC rfl (Eq.mp (by kernel_rfl) rq4_vc)
    | 5, _ => exact repC rfl (Eq.mp (by kernel_rfl) rq5_vc)
    | 6, _ => exact repC rfl (Eq.mp (by kernel_rfl) rq6_vc)
    | 7, _ => exact repC rfl (Eq.mp (by kernel_rfl) rq7_vc)
    | 8, _ => exact repC rfl (Eq.mp (by kernel_rfl) rq8_vc)
    | n + 9, q1 => exact absurd q1.2 (by omega)
  · cases h
def Tb.own1 (T : Tb) (f : FuncId) (t : Nat → (Nat → OB) → List AV → (Nat → (Nat → OB) → AV → Prop) → Prop) : Tb := { T with own := fun g => bif Nat.beq g f then some t else T.own g }
theorem TbSound.own1 {P : Program} {T : Tb} (hT : TbSound P T) {f : FuncId} {t : Nat → (Nat → OB) → List AV → (Nat → (Nat → OB) → AV → Prop) → Prop} (ht : OwnT P T.objs f t) : TbSound P (Tb.own1 T f t) := by
  refine ⟨fun g t' h => ?_, hT.pu, hT.fre⟩
  simp only [Tb.own1] at h
  cases hx : Nat.beq g f with
  | false => rw [hx] at h; exact hT.own _ _ h
  | true =>
    rw [hx] at h
    obtain rfl := Nat.eq_of_beq_eq_true hx
    cases h
    exact ht
noncomputable def TBd (G : List (Nat × Obj)) : Tb := (Tb.own1 (Tb.own1 (TIt G) 120 ccO) 73 strO).body Tryz.prog [(69, .auto), (70, .auto), (72, .auto), (239, .auto)]
theorem TBd_sound {G : List (Nat × Obj)} (hG : TabIn G) : TbSound Tryz.prog (TBd G) := TbSound.body mixed (TbSound.own1 (TbSound.own1 (TIt_sound hG) (cc_own G)) (str_own G)) _
noncomputable def TWr (G : List (Nat × Obj)) : Tb := (TBd G).plus 240 rep_t
theorem TWr_sound {G : List (Nat × Obj)} (hG : TabIn G) : TbSound Tryz.prog (TWr G) := TbSound.plus (TBd_sound hG) (PureT.mono rep_T)
def wrTx (x : Big) (z : Nat) : Str := (bif x.neg then [45] else []) ++ Lib.decDigits (topN 1000000000 x.l z)
def bufOf (σ : Sig) : Nat :=
  match σ.bl 1 with
  | .box _ _ cs => blkAt (cs 1)
  | _ => 0
def iwr_it (x : Big) : Ann :=
  .two .auto (.one (.two .auto (.unroll (x.l.length + 1) (.loop Nat (fun σ z => [(0, σ.tm 0), (1, σ.tm 1), (3, .i ((z : Int) - 1))])
    (fun σ z => [(1, .box 108 2 (listFn [.np 1 0, .ns σ.nb 0 (wrTx x z).length])), (bufOf σ, .dead), (σ.nb, bArr (wrTx x z))]) 1 (fun _ z => z < x.l.length) (fun _ z => z) .auto))))
def iwr_an (x : Big) : Ann :=
  .two .auto (.two .auto (.two .auto (.two .auto (.two (.two .auto (.one (.range (iwr_it x) .auto .auto))) .auto))))
theorem getD_appS (a b : Str) (i : Nat) : (a ++ b).getD i 0 = if i < a.length then a.getD i 0 else b.getD (i - a.length) 0 := by
  by_cases h : i < a.length
  · rw [if_pos h, List.getD_eq_getElem?_getD, List.getElem?_append_left h, ← List.getD_eq_getElem?_getD]
  · rw [if_neg h, List.getD_eq_getElem?_getD, List.getElem?_append_right (by omega), ← List.getD_eq_getElem?_getD]
theorem cat2 (a b : Str) (i : Nat) : avM (if i < a.length then AV.v (Value.int IntKind.u8 ((a.getD i 0).toNat : Int)) else AV.v (Value.int IntKind.u8 ((b.getD (i - a.length) 0).toNat : Int))) (AV.v (Value.int IntKind.u8 (((a ++ b).getD i 0).toNat : Int))) := by
  rw [getD_appS]
  split <;> exact avM_refl _
theorem cat3 (a b c : Str) (i : Nat) : avM (if i < a.length + b.length then (if i < a.length then AV.v (Value.int IntKind.u8 ((a.getD i 0).toNat : Int)) else AV.v (Value.int IntKind.u8 ((b.getD (i - a.length) 0).toNat : Int))) else AV.v (Value.int IntKind.u8 ((c.getD (i - (a.length + b.length)) 0).toNat : Int))) (AV.v (Value.int IntKind.u8 (((a ++ b ++ c).getD i 0).toNat : Int))) := by
  rw [getD_appS (a ++ b) c, List.length_append]
  split
  · exact cat2 a b i
  · exact avM_refl _
theorem cat1 (c : UInt8) (b : Str) (i : Nat) : avM (if i < 1 then AV.v (Value.int IntKind.u8 (c.toNat : Int)) else AV.v (Value.int IntKind.u8 ((b.getD (i - 1) 0).toNat : Int))) (AV.v (Value.int IntKind.u8 (((c :: b).getD i 0).toNat : Int))) := by
  match i with
  | 0 => exact avM_refl _
  | i + 1 => rw [if_neg (by omega)]; exact avM_refl _
theorem itoa_limb {n : Int} (h0 : 0 ≤ n) (h1 : n < 1000000000) : 1 ≤ (itoa n).length ∧ (itoa n).length ≤ 9 ∧ itoa n = decDigits n.toNat := by
  obtain ⟨m, rfl⟩ : ∃ m : Nat, n = m := ⟨n.toNat, by omega⟩
  have e : itoa (m : Int) = decDigits m := Go.Ar.itoa_nat m
  rw [Int.toNat_natCast, e]
  refine ⟨decDigits_pos m, ?_, rfl⟩
  rw [Lib.decDigits_length]
  exact (nDigits_le_iff (by omega)).2 (by omega)
theorem wr_first {x : Big} (hx : InL 1000000000 x.l) (h : 0 < x.l.length) : wrTx x (x.l.length - 1) = (bif x.neg then [45] else []) ++ itoa (x.l.getD (x.l.length - 1) 0) := by
  have g := hx.get (by omega) (x.l.length - 1)
  rw [(itoa_limb g.1 g.2).2.2]
  unfold wrTx
  rw [topN_last h]
theorem top_nz {l : List Int} (hx : InL 1000000000 l) (ht : trimL l = l) {z : Nat} (hz : z < l.length) : topN 1000000000 l z ≠ 0 := by
  have e : l = limbs 1000000000 (valL 1000000000 l).toNat := limbs_eq (b := 1000000000) (by omega) hx ht
  have hn : (valL 1000000000 l).toNat ≠ 0 := fun e0 => by
    rw [e0, limbs_zero] at e
    rw [e] at hz
    exact absurd hz (Nat.not_lt_zero _)
  rw [e] at hz ⊢
  exact topN_pos (b := 1000000000) (by omega) hn hz
theorem wr_step {x : Big} (hx : InL 1000000000 x.l) (ht : trimL x.l = x.l) {z : Nat} (h0 : 0 < z) (h : z < x.l.length) :
    wrTx x (z - 1) = wrTx x z ++ List.replicate (9 - ((itoa (x.l.getD (z - 1) 0)).length : Int)).toNat 48 ++ itoa (x.l.getD (z - 1) 0) := by
  have g := hx.get (by omega) (z - 1)
  obtain ⟨g1, g2, g3⟩ := itoa_limb g.1 g.2
  have hs := topN_step (k := 9) (l := x.l) (by omega) hx (i := z - 1) (by omega) (by rw [show z - 1 + 1 = z by omega]; exact top_nz hx ht h)
  rw [show z - 1 + 1 = z by omega] at hs
  unfold wrTx
  rw [show decDigits (topN 1000000000 x.l (z - 1)) = decDigits (topN 1000000000 x.l z) ++ padK 9 (x.l.getD (z - 1) 0).toNat from hs]
  unfold padK
  rw [← g3, show (9 - ((itoa (x.l.getD (z - 1) 0)).length : Int)).toNat = 9 - (itoa (x.l.getD (z - 1) 0)).length by omega]
  simp only [List.append_assoc]
theorem wr_len {x : Big} (hx : InL 1000000000 x.l) (z : Nat) : (wrTx x z).length ≤ 9 * x.l.length + 2 := by
  unfold wrTx
  rw [List.length_append]
  have h1 : (bif x.neg then [(45 : UInt8)] else []).length ≤ 1 := by cases x.neg <;> simp
  have h2 : (decDigits (topN 1000000000 x.l z)).length ≤ 9 * x.l.length + 1 := by
    rw [Lib.decDigits_length]
    refine (nDigits_le_iff (by omega)).2 ?_
    have h3 := valL_lt (b := 1000000000) (by omega) (hx.drop z)
    have h4 := valL_nonneg (b := 1000000000) (by omega) (hx.drop z)
    unfold topN
    have h5 : (1000000000 : Nat) ^ (x.l.drop z).length ≤ 1000000000 ^ x.l.length := Nat.pow_le_pow_right (by omega) (by simp)
    have h6 : (1000000000 : Nat) ^ x.l.length = 10 ^ (9 * x.l.length) := by rw [Nat.pow_mul]
    have h7 : 10 ^ (9 * x.l.length) ≤ 10 ^ (9 * x.l.length + 1) := Nat.pow_le_pow_right (by omega) (by omega)
    have h8 : (valL 1000000000 (x.l.drop z)).toNat < 1000000000 ^ (x.l.drop z).length := by
      have : ((valL 1000000000 (x.l.drop z)).toNat : Int) < ((1000000000 ^ (x.l.drop z).length : Nat) : Int) := by rw [Int.toNat_of_nonneg h4, Int.natCast_pow]; exact h3
      omega
    exact Nat.lt_of_lt_of_le h8 (by omega)
  omega
theorem wr_end {x : Big} (hx : InL 1000000000 x.l) (ht : trimL x.l = x.l) (h : 0 < x.l.length) : wrTx x 0 = itoa (bif x.neg then - valL 1000000000 x.l else valL 1000000000 x.l) ∧ 0 < (wrTx x 0).length := by
  have hz := top_nz hx ht h
  have e : topN 1000000000 x.l 0 = (valL 1000000000 x.l).toNat := by unfold topN; rw [List.drop_zero]; rfl
  rw [e] at hz
  unfold wrTx
  rw [e]
  obtain ⟨n, hn⟩ : ∃ n : Nat, valL 1000000000 x.l = n := ⟨(valL 1000000000 x.l).toNat, by omega⟩
  rw [hn] at hz ⊢
  rw [Int.toNat_natCast] at hz ⊢
  refine ⟨?_, by have := decDigits_pos n; simp; omega⟩
  cases x.neg with
  | true => exact (Go.Ar.itoa_neg (by omega)).symm
  | false => exact (Go.Ar.itoa_nat n).symm
def iwrite_t : List AV → Option (List Cond × AV)
  | [x_x] => some ([.b (agOk Big x_x), .p (InL 1000000000 (agD (α := Big) x_x).l), .p (trimL (agD (α := Big) x_x).l = (agD (α := Big) x_x).l), .p ((agD (α := Big) x_x).l.length ≤ 100000000)], .str (itoa (bif (agD (α := Big) x_x).neg then - valL 1000000000 (agD (α := Big) x_x).l else valL 1000000000 (agD (α := Big) x_x).l)))
  | _ => none
theorem iwrite_vc (G : List (Nat × Obj)) (x : Big) (hx : InL 1000000000 x.l) (ht : trimL x.l = x.l) (hl : x.l.length ≤ 100000000) :
 let q1 := (bif Big.neg x then -valL (1000000000 : Int) (Big.l x) else valL (1000000000 : Int) (Big.l x)); let q3 := ((↑(List.length (Big.l x)) : Int) - (1 : Int)); let q2 := (DB.db (inK .i64 q3)); let q4 := (leB (0 : Int) q3); let q5 := (DB.db ((0 : Int) ≤ (↑(List.length (Big.l x)) : Int) - (1 : Int) ∧ (↑(List.length (Big.l x)) : Int) - (1 : Int) < (↑(List.length (Big.l x)) : Int))); let q7 := (Int.toNat q3); let q6 := ((-9223372036854775808 : Int) ≤ List.getD (Big.l x) q7 Enc.dflt ∧ List.getD (Big.l x) q7 Enc.dflt ≤ (9223372036854775807 : Int)); let q8 := (ltB q3 q3); let q12 := (itoa
 (List.getD (Big.l x) q7 Enc.dflt)); let q11 := (↑(List.length q12) : Int); let q10 := ((9 : Int) - q11); let q9 := (DB.db (inK .i64 q10)); let q13 := ((0 : Int) ≤ (9 : Int) - q11 ∧ (9 : Int) - q11 ≤ (8 : Int)); let q15 := (List.replicate (Int.toNat q10) (48 : UInt8)); let q14 := (1 + List.length q15); let q16 := (DB.db (inK .i64 ((↑(List.length (Big.l x)) : Int) - (1 : Int) - (1 : Int)))); let q18 := (AV.xl false 1 (List.length (Big.l x)) fun i j => AV.v (Value.int .i64 (List.getD (Big.l x) i Enc.dflt))); let q17 := (180 = 180 ∧ 2 = 2 ∧ Big.neg x = Big.neg x ∧ avM q18 q18); bndL [AV.agg 2
 (Enc.enc x)] → bsplit ((↑(List.length (Big.l x)) : Int) == (0 : Int)) (Array.toList (ByteArray.data (ByteArray.mk #[(48 : UInt8)])) = itoa q1) (bsplit (Big.neg x) (bsplit q2 (bsplit q4 (bsplit q5 (q6 ∧ bsplit q2 (bsplit q8 (bsplit q9 (q13 ∧ bsplit (DB.db (q14 * 1 ≤ 140737488355328)) (bsplit (DB.db ((1 + List.length q15 + List.length q12) * 1 ≤ 140737488355328)) (bsplit q16 ((∃ (z : Nat), ((z < List.length (Big.l x) ∧ z < List.length (Big.l x) + 1) ∧ nat_lit 4 = 4 ∧ (nat_lit 3 = 3 ∧ 0 = 0) ∧ IntKind.i64 = .i64 ∧ (↑(List.length (Big.l x)) : Int) - (1 : Int) - (1 : Int) = (↑z : Int) - (1 : Int)) ∧
 ((((((q17 ∧ 108 = 108 ∧ 2 = 2 ∧ (1 = 1 ∧ 0 = 0) ∧ nat_lit 7 = 7 ∧ 0 = 0 ∧ List.length (wrTx x z) = 1 + List.length q15 + List.length q12) ∧ True) ∧ 57 = 57 ∧ 1 = 1 ∧ avM q18 q18) ∧ LoopState.ready = LoopState.ready ∧ Non Code = Non Code) ∧ True) ∧ True) ∧ (5 : TypeId) = 5 ∧ 1 = 1 ∧ List.length (wrTx x z) = 1 + List.length q15 + List.length q12 ∧ ∀ (i j : Nat), i < 1 + List.length q15 + List.length q12 → j < 1 → avM (if i < 1 + List.length q15 then if i < 1 then Sx.rowAt [fun (x : Nat) => AV.v (Value.int IntKind.u8 (45 : Int))] i j else AV.v (Value.int IntKind.u8 (↑(UInt8.toNat (List.getD q15 (i
 - 1) (0 : UInt8))) : Int)) else AV.v (Value.int IntKind.u8 (↑(UInt8.toNat (List.getD q12 (i - q14) (0 : UInt8))) : Int))) (AV.v (Value.int IntKind.u8 (↑(UInt8.toNat (List.getD (wrTx x z) i (0 : UInt8))) : Int)))) ∧ ∀ (z : Nat), let q21 := (itoa (List.getD (Big.l x) (Int.toNat ((↑z : Int) - (1 : Int))) Enc.dflt)); let q20 := (↑(List.length q21) : Int); let q19 := ((9 : Int) - q20); let q23 := (List.replicate (Int.toNat q19) (48 : UInt8)); let q22 := (List.length (wrTx x z) + List.length q23); let q24 := (DB.db (inK .i64 ((↑z : Int) - (1 : Int) - (1 : Int)))); z < List.length (Big.l x) → bsplit
 (leB (0 : Int) ((↑z : Int) - (1 : Int))) (bsplit (DB.db ((0 : Int) ≤ (↑z : Int) - (1 : Int) ∧ (↑z : Int) - (1 : Int) < (↑(List.length (Big.l x)) : Int))) (((-9223372036854775808 : Int) ≤ List.getD (Big.l x) (Int.toNat ((↑z : Int) - (1 : Int))) Enc.dflt ∧ List.getD (Big.l x) (Int.toNat ((↑z : Int) - (1 : Int))) Enc.dflt ≤ (9223372036854775807 : Int)) ∧ bsplit q2 (bsplit (ltB ((↑z : Int) - (1 : Int)) q3) (bsplit (DB.db (inK .i64 q19)) (((0 : Int) ≤ (9 : Int) - q20 ∧ (9 : Int) - q20 ≤ (8 : Int)) ∧ bsplit (DB.db (q22 * 1 ≤ 140737488355328)) (bsplit (DB.db ((List.length (wrTx x z) + List.length q23
 + List.length q21) * 1 ≤ 140737488355328)) (bsplit q24 (∃ (z' : Nat), ((z' < List.length (Big.l x) ∧ z' < z) ∧ nat_lit 4 = 4 ∧ (nat_lit 3 = 3 ∧ 0 = 0) ∧ IntKind.i64 = .i64 ∧ (↑z : Int) - (1 : Int) - (1 : Int) = (↑z' : Int) - (1 : Int)) ∧ ((((((q17 ∧ 108 = 108 ∧ 2 = 2 ∧ (1 = 1 ∧ 0 = 0) ∧ nat_lit 7 = 7 ∧ 0 = 0 ∧ List.length (wrTx x z') = List.length (wrTx x z) + List.length q23 + List.length q21) ∧ True) ∧ 57 = 57 ∧ 1 = 1 ∧ avM q18 q18) ∧ LoopState.ready = LoopState.ready ∧ Non Code = Non Code) ∧ True) ∧ True) ∧ (5 : TypeId) = 5 ∧ 1 = 1 ∧ List.length (wrTx x z') = List.length (wrTx x z) +
 List.length q23 + List.length q21 ∧ ∀ (i j : Nat), i < List.length (wrTx x z) + List.length q23 + List.length q21 → j < 1 → avM (if i < List.length (wrTx x z) + List.length q23 then if i < List.length (wrTx x z) then AV.v (Value.int IntKind.u8 (↑(UInt8.toNat (List.getD (wrTx x z) i (0 : UInt8))) : Int)) else AV.v (Value.int IntKind.u8 (↑(UInt8.toNat (List.getD q23 (i - List.length (wrTx x z)) (0 : UInt8))) : Int)) else AV.v (Value.int IntKind.u8 (↑(UInt8.toNat (List.getD q21 (i - q22) (0 : UInt8))) : Int))) (AV.v (Value.int IntKind.u8 (↑(UInt8.toNat (List.getD (wrTx x z') i (0 : UInt8))) :
 Int)))) False) False) False) False) (bsplit (DB.db ((List.length (wrTx x z) + List.length q21) * 1 ≤ 140737488355328)) (bsplit q24 (∃ (z' : Nat), ((z' < List.length (Big.l x) ∧ z' < z) ∧ nat_lit 4 = 4 ∧ (nat_lit 3 = 3 ∧ 0 = 0) ∧ IntKind.i64 = .i64 ∧ (↑z : Int) - (1 : Int) - (1 : Int) = (↑z' : Int) - (1 : Int)) ∧ ((((((q17 ∧ 108 = 108 ∧ 2 = 2 ∧ (1 = 1 ∧ 0 = 0) ∧ nat_lit 7 = 7 ∧ 0 = 0 ∧ List.length (wrTx x z') = List.length (wrTx x z) + List.length q21) ∧ True) ∧ 57 = 57 ∧ 1 = 1 ∧ avM q18 q18) ∧ LoopState.ready = LoopState.ready ∧ Non Code = Non Code) ∧ True) ∧ True) ∧ (5 : TypeId) = 5 ∧ 1 = 1 ∧
 List.length (wrTx x z') = List.length (wrTx x z) + List.length q21 ∧ ∀ (i j : Nat), i < List.length (wrTx x z) + List.length q21 → j < 1 → avM (if i < List.length (wrTx x z) then AV.v (Value.int IntKind.u8 (↑(UInt8.toNat (List.getD (wrTx x z) i (0 : UInt8))) : Int)) else AV.v (Value.int IntKind.u8 (↑(UInt8.toNat (List.getD q21 (i - List.length (wrTx x z)) (0 : UInt8))) : Int))) (AV.v (Value.int IntKind.u8 (↑(UInt8.toNat (List.getD (wrTx x z') i (0 : UInt8))) : Int)))) False) False)) False) False) (0 < List.length (wrTx x z) ∧ ∃ (l : List UInt8), List.length l = List.length (wrTx x z) ∧ (∀ (i :
 Nat), i < List.length (wrTx x z) → AV.v (Value.int IntKind.u8 (↑(UInt8.toNat (List.getD (wrTx x z) i (0 : UInt8))) : Int)) = AV.v (Value.int IntKind.u8 (↑(UInt8.toNat (List.getD l i (0 : UInt8))) : Int))) ∧ l = itoa q1)) False) False) False) False) (bsplit (DB.db ((1 + List.length q12) * 1 ≤ 140737488355328)) (bsplit q16 ((∃ (z : Nat), ((z < List.length (Big.l x) ∧ z < List.length (Big.l x) + 1) ∧ nat_lit 4 = 4 ∧ (nat_lit 3 = 3 ∧ 0 = 0) ∧ IntKind.i64 = .i64 ∧ (↑(List.length (Big.l x)) : Int) - (1 : Int) - (1 : Int) = (↑z : Int) - (1 : Int)) ∧ (((((q17 ∧ 108 = 108 ∧ 2 = 2 ∧ (1 = 1 ∧ 0 = 0) ∧
 nat_lit 6 = 6 ∧ 0 = 0 ∧ List.length (wrTx x z) = 1 + List.length q12) ∧ True) ∧ 57 = 57 ∧ 1 = 1 ∧ avM q18 q18) ∧ LoopState.ready = LoopState.ready ∧ Non Code = Non Code) ∧ True) ∧ (5 : TypeId) = 5 ∧ 1 = 1 ∧ List.length (wrTx x z) = 1 + List.length q12 ∧ ∀ (i j : Nat), i < 1 + List.length q12 → j < 1 → avM (if i < 1 then Sx.rowAt [fun (x : Nat) => AV.v (Value.int IntKind.u8 (45 : Int))] i j else AV.v (Value.int IntKind.u8 (↑(UInt8.toNat (List.getD q12 (i - 1) (0 : UInt8))) : Int))) (AV.v (Value.int IntKind.u8 (↑(UInt8.toNat (List.getD (wrTx x z) i (0 : UInt8))) : Int)))) ∧ ∀ (z : Nat), let q27
 := (itoa (List.getD (Big.l x) (Int.toNat ((↑z : Int) - (1 : Int))) Enc.dflt)); let q26 := (↑(List.length q27) : Int); let q25 := ((9 : Int) - q26); let q29 := (List.replicate (Int.toNat q25) (48 : UInt8)); let q28 := (List.length (wrTx x z) + List.length q29); let q30 := (DB.db (inK .i64 ((↑z : Int) - (1 : Int) - (1 : Int)))); z < List.length (Big.l x) → bsplit (leB (0 : Int) ((↑z : Int) - (1 : Int))) (bsplit (DB.db ((0 : Int) ≤ (↑z : Int) - (1 : Int) ∧ (↑z : Int) - (1 : Int) < (↑(List.length (Big.l x)) : Int))) (((-9223372036854775808 : Int) ≤ List.getD (Big.l x) (Int.toNat ((↑z : Int) - (1 :
 Int))) Enc.dflt ∧ List.getD (Big.l x) (Int.toNat ((↑z : Int) - (1 : Int))) Enc.dflt ≤ (9223372036854775807 : Int)) ∧ bsplit q2 (bsplit (ltB ((↑z : Int) - (1 : Int)) q3) (bsplit (DB.db (inK .i64 q25)) (((0 : Int) ≤ (9 : Int) - q26 ∧ (9 : Int) - q26 ≤ (8 : Int)) ∧ bsplit (DB.db (q28 * 1 ≤ 140737488355328)) (bsplit (DB.db ((List.length (wrTx x z) + List.length q29 + List.length q27) * 1 ≤ 140737488355328)) (bsplit q30 (∃ (z' : Nat), ((z' < List.length (Big.l x) ∧ z' < z) ∧ nat_lit 4 = 4 ∧ (nat_lit 3 = 3 ∧ 0 = 0) ∧ IntKind.i64 = .i64 ∧ (↑z : Int) - (1 : Int) - (1 : Int) = (↑z' : Int) - (1 : Int)) ∧
 (((((q17 ∧ 108 = 108 ∧ 2 = 2 ∧ (1 = 1 ∧ 0 = 0) ∧ nat_lit 6 = 6 ∧ 0 = 0 ∧ List.length (wrTx x z') = List.length (wrTx x z) + List.length q29 + List.length q27) ∧ True) ∧ 57 = 57 ∧ 1 = 1 ∧ avM q18 q18) ∧ LoopState.ready = LoopState.ready ∧ Non Code = Non Code) ∧ True) ∧ (5 : TypeId) = 5 ∧ 1 = 1 ∧ List.length (wrTx x z') = List.length (wrTx x z) + List.length q29 + List.length q27 ∧ ∀ (i j : Nat), i < List.length (wrTx x z) + List.length q29 + List.length q27 → j < 1 → avM (if i < List.length (wrTx x z) + List.length q29 then if i < List.length (wrTx x z) then AV.v (Value.int IntKind.u8
 (↑(UInt8.toNat (List.getD (wrTx x z) i (0 : UInt8))) : Int)) else AV.v (Value.int IntKind.u8 (↑(UInt8.toNat (List.getD q29 (i - List.length (wrTx x z)) (0 : UInt8))) : Int)) else AV.v (Value.int IntKind.u8 (↑(UInt8.toNat (List.getD q27 (i - q28) (0 : UInt8))) : Int))) (AV.v (Value.int IntKind.u8 (↑(UInt8.toNat (List.getD (wrTx x z') i (0 : UInt8))) : Int)))) False) False) False) False) (bsplit (DB.db ((List.length (wrTx x z) + List.length q27) * 1 ≤ 140737488355328)) (bsplit q30 (∃ (z' : Nat), ((z' < List.length (Big.l x) ∧ z' < z) ∧ nat_lit 4 = 4 ∧ (nat_lit 3 = 3 ∧ 0 = 0) ∧ IntKind.i64 = .i64
 ∧ (↑z : Int) - (1 : Int) - (1 : Int) = (↑z' : Int) - (1 : Int)) ∧ (((((q17 ∧ 108 = 108 ∧ 2 = 2 ∧ (1 = 1 ∧ 0 = 0) ∧ nat_lit 6 = 6 ∧ 0 = 0 ∧ List.length (wrTx x z') = List.length (wrTx x z) + List.length q27) ∧ True) ∧ 57 = 57 ∧ 1 = 1 ∧ avM q18 q18) ∧ LoopState.ready = LoopState.ready ∧ Non Code = Non Code) ∧ True) ∧ (5 : TypeId) = 5 ∧ 1 = 1 ∧ List.length (wrTx x z') = List.length (wrTx x z) + List.length q27 ∧ ∀ (i j : Nat), i < List.length (wrTx x z) + List.length q27 → j < 1 → avM (if i < List.length (wrTx x z) then AV.v (Value.int IntKind.u8 (↑(UInt8.toNat (List.getD (wrTx x z) i (0 :
 UInt8))) : Int)) else AV.v (Value.int IntKind.u8 (↑(UInt8.toNat (List.getD q27 (i - List.length (wrTx x z)) (0 : UInt8))) : Int))) (AV.v (Value.int IntKind.u8 (↑(UInt8.toNat (List.getD (wrTx x z') i (0 : UInt8))) : Int)))) False) False)) False) False) (0 < List.length (wrTx x z) ∧ ∃ (l : List UInt8), List.length l = List.length (wrTx x z) ∧ (∀ (i : Nat), i < List.length (wrTx x z) → AV.v (Value.int IntKind.u8 (↑(UInt8.toNat (List.getD (wrTx x z) i (0 : UInt8))) : Int)) = AV.v (Value.int IntKind.u8 (↑(UInt8.toNat (List.getD l i (0 : UInt8))) : Int))) ∧ l = itoa q1)) False) False)) False) False)
 (0 < 1 ∧ ∃ (l : List UInt8), List.length l = 1 ∧ (∀ (i : Nat), i < 1 → Sx.rowAt [fun (x : Nat) => AV.v (Value.int IntKind.u8 (45 : Int))] i 0 = AV.v (Value.int IntKind.u8 (↑(UInt8.toNat (List.getD l i (0 : UInt8))) : Int))) ∧ l = itoa q1)) False) (bsplit q2 (bsplit q4 (bsplit q5 (q6 ∧ bsplit q2 (bsplit q8 (bsplit q9 (q13 ∧ bsplit (DB.db (List.length q15 * 1 ≤ 140737488355328)) (bsplit (DB.db ((List.length q15 + List.length q12) * 1 ≤ 140737488355328)) (bsplit q16 ((∃ (z : Nat), ((z < List.length (Big.l x) ∧ z < List.length (Big.l x) + 1) ∧ nat_lit 3 = 3 ∧ (nat_lit 2 = 2 ∧ 0 = 0) ∧ IntKind.i64 =
 .i64 ∧ (↑(List.length (Big.l x)) : Int) - (1 : Int) - (1 : Int) = (↑z : Int) - (1 : Int)) ∧ (((((q17 ∧ 108 = 108 ∧ 2 = 2 ∧ (1 = 1 ∧ 0 = 0) ∧ nat_lit 6 = 6 ∧ 0 = 0 ∧ List.length (wrTx x z) = List.length q15 + List.length q12) ∧ 57 = 57 ∧ 1 = 1 ∧ avM q18 q18) ∧ LoopState.ready = LoopState.ready ∧ Non Code = Non Code) ∧ True) ∧ True) ∧ (5 : TypeId) = 5 ∧ 1 = 1 ∧ List.length (wrTx x z) = List.length q15 + List.length q12 ∧ ∀ (i j : Nat), i < List.length q15 + List.length q12 → j < 1 → avM (if i < List.length q15 then AV.v (Value.int IntKind.u8 (↑(UInt8.toNat (List.getD q15 i (0 : UInt8))) : Int))
 else AV.v (Value.int IntKind.u8 (↑(UInt8.toNat (List.getD q12 (i - List.length q15) (0 : UInt8))) : Int))) (AV.v (Value.int IntKind.u8 (↑(UInt8.toNat (List.getD (wrTx x z) i (0 : UInt8))) : Int)))) ∧ ∀ (z : Nat), let q33 := (itoa (List.getD (Big.l x) (Int.toNat ((↑z : Int) - (1 : Int))) Enc.dflt)); let q32 := (↑(List.length q33) : Int); let q31 := ((9 : Int) - q32); let q35 := (List.replicate (Int.toNat q31) (48 : UInt8)); let q34 := (List.length (wrTx x z) + List.length q35); let q36 := (DB.db (inK .i64 ((↑z : Int) - (1 : Int) - (1 : Int)))); z < List.length (Big.l x) → bsplit (leB (0 : Int)
 ((↑z : Int) - (1 : Int))) (bsplit (DB.db ((0 : Int) ≤ (↑z : Int) - (1 : Int) ∧ (↑z : Int) - (1 : Int) < (↑(List.length (Big.l x)) : Int))) (((-9223372036854775808 : Int) ≤ List.getD (Big.l x) (Int.toNat ((↑z : Int) - (1 : Int))) Enc.dflt ∧ List.getD (Big.l x) (Int.toNat ((↑z : Int) - (1 : Int))) Enc.dflt ≤ (9223372036854775807 : Int)) ∧ bsplit q2 (bsplit (ltB ((↑z : Int) - (1 : Int)) q3) (bsplit (DB.db (inK .i64 q31)) (((0 : Int) ≤ (9 : Int) - q32 ∧ (9 : Int) - q32 ≤ (8 : Int)) ∧ bsplit (DB.db (q34 * 1 ≤ 140737488355328)) (bsplit (DB.db ((List.length (wrTx x z) + List.length q35 + List.length
 q33) * 1 ≤ 140737488355328)) (bsplit q36 (∃ (z' : Nat), ((z' < List.length (Big.l x) ∧ z' < z) ∧ nat_lit 3 = 3 ∧ (nat_lit 2 = 2 ∧ 0 = 0) ∧ IntKind.i64 = .i64 ∧ (↑z : Int) - (1 : Int) - (1 : Int) = (↑z' : Int) - (1 : Int)) ∧ (((((q17 ∧ 108 = 108 ∧ 2 = 2 ∧ (1 = 1 ∧ 0 = 0) ∧ nat_lit 6 = 6 ∧ 0 = 0 ∧ List.length (wrTx x z') = List.length (wrTx x z) + List.length q35 + List.length q33) ∧ 57 = 57 ∧ 1 = 1 ∧ avM q18 q18) ∧ LoopState.ready = LoopState.ready ∧ Non Code = Non Code) ∧ True) ∧ True) ∧ (5 : TypeId) = 5 ∧ 1 = 1 ∧ List.length (wrTx x z') = List.length (wrTx x z) + List.length q35 + List.length
 q33 ∧ ∀ (i j : Nat), i < List.length (wrTx x z) + List.length q35 + List.length q33 → j < 1 → avM (if i < List.length (wrTx x z) + List.length q35 then if i < List.length (wrTx x z) then AV.v (Value.int IntKind.u8 (↑(UInt8.toNat (List.getD (wrTx x z) i (0 : UInt8))) : Int)) else AV.v (Value.int IntKind.u8 (↑(UInt8.toNat (List.getD q35 (i - List.length (wrTx x z)) (0 : UInt8))) : Int)) else AV.v (Value.int IntKind.u8 (↑(UInt8.toNat (List.getD q33 (i - q34) (0 : UInt8))) : Int))) (AV.v (Value.int IntKind.u8 (↑(UInt8.toNat (List.getD (wrTx x z') i (0 : UInt8))) : Int)))) False) False) False)
 False) (bsplit (DB.db ((List.length (wrTx x z) + List.length q33) * 1 ≤ 140737488355328)) (bsplit q36 (∃ (z' : Nat), ((z' < List.length (Big.l x) ∧ z' < z) ∧ nat_lit 3 = 3 ∧ (nat_lit 2 = 2 ∧ 0 = 0) ∧ IntKind.i64 = .i64 ∧ (↑z : Int) - (1 : Int) - (1 : Int) = (↑z' : Int) - (1 : Int)) ∧ (((((q17 ∧ 108 = 108 ∧ 2 = 2 ∧ (1 = 1 ∧ 0 = 0) ∧ nat_lit 6 = 6 ∧ 0 = 0 ∧ List.length (wrTx x z') = List.length (wrTx x z) + List.length q33) ∧ 57 = 57 ∧ 1 = 1 ∧ avM q18 q18) ∧ LoopState.ready = LoopState.ready ∧ Non Code = Non Code) ∧ True) ∧ True) ∧ (5 : TypeId) = 5 ∧ 1 = 1 ∧ List.length (wrTx x z') = List.length
 (wrTx x z) + List.length q33 ∧ ∀ (i j : Nat), i < List.length (wrTx x z) + List.length q33 → j < 1 → avM (if i < List.length (wrTx x z) then AV.v (Value.int IntKind.u8 (↑(UInt8.toNat (List.getD (wrTx x z) i (0 : UInt8))) : Int)) else AV.v (Value.int IntKind.u8 (↑(UInt8.toNat (List.getD q33 (i - List.length (wrTx x z)) (0 : UInt8))) : Int))) (AV.v (Value.int IntKind.u8 (↑(UInt8.toNat (List.getD (wrTx x z') i (0 : UInt8))) : Int)))) False) False)) False) False) (0 < List.length (wrTx x z) ∧ ∃ (l : List UInt8), List.length l = List.length (wrTx x z) ∧ (∀ (i : Nat), i < List.length (wrTx x z) →
 AV.v (Value.int IntKind.u8 (↑(UInt8.toNat (List.getD (wrTx x z) i (0 : UInt8))) : Int)) = AV.v (Value.int IntKind.u8 (↑(UInt8.toNat (List.getD l i (0 : UInt8))) : Int))) ∧ l = itoa q1)) False) False) False) False) (bsplit (DB.db (List.length q12 * 1 ≤ 140737488355328)) (bsplit q16 ((∃ (z : Nat), ((z < List.length (Big.l x) ∧ z < List.length (Big.l x) + 1) ∧ nat_lit 3 = 3 ∧ (nat_lit 2 = 2 ∧ 0 = 0) ∧ IntKind.i64 = .i64 ∧ (↑(List.length (Big.l x)) : Int) - (1 : Int) - (1 : Int) = (↑z : Int) - (1 : Int)) ∧ ((((q17 ∧ 108 = 108 ∧ 2 = 2 ∧ (1 = 1 ∧ 0 = 0) ∧ nat_lit 5 = 5 ∧ 0 = 0 ∧ List.length (wrTx x
 z) = List.length q12) ∧ 57 = 57 ∧ 1 = 1 ∧ avM q18 q18) ∧ LoopState.ready = LoopState.ready ∧ Non Code = Non Code) ∧ True) ∧ (5 : TypeId) = 5 ∧ 1 = 1 ∧ List.length (wrTx x z) = List.length q12 ∧ ∀ (i j : Nat), i < List.length q12 → j < 1 → IntKind.u8 = IntKind.u8 ∧ (↑(UInt8.toNat (List.getD q12 i (0 : UInt8))) : Int) = (↑(UInt8.toNat (List.getD (wrTx x z) i (0 : UInt8))) : Int)) ∧ ∀ (z : Nat), let q39 := (itoa (List.getD (Big.l x) (Int.toNat ((↑z : Int) - (1 : Int))) Enc.dflt)); let q38 := (↑(List.length q39) : Int); let q37 := ((9 : Int) - q38); let q41 := (List.replicate (Int.toNat q37) (48 :
 UInt8)); let q40 := (List.length (wrTx x z) + List.length q41); let q42 := (DB.db (inK .i64 ((↑z : Int) - (1 : Int) - (1 : Int)))); z < List.length (Big.l x) → bsplit (leB (0 : Int) ((↑z : Int) - (1 : Int))) (bsplit (DB.db ((0 : Int) ≤ (↑z : Int) - (1 : Int) ∧ (↑z : Int) - (1 : Int) < (↑(List.length (Big.l x)) : Int))) (((-9223372036854775808 : Int) ≤ List.getD (Big.l x) (Int.toNat ((↑z : Int) - (1 : Int))) Enc.dflt ∧ List.getD (Big.l x) (Int.toNat ((↑z : Int) - (1 : Int))) Enc.dflt ≤ (9223372036854775807 : Int)) ∧ bsplit q2 (bsplit (ltB ((↑z : Int) - (1 : Int)) q3) (bsplit (DB.db (inK .i64
 q37)) (((0 : Int) ≤ (9 : Int) - q38 ∧ (9 : Int) - q38 ≤ (8 : Int)) ∧ bsplit (DB.db (q40 * 1 ≤ 140737488355328)) (bsplit (DB.db ((List.length (wrTx x z) + List.length q41 + List.length q39) * 1 ≤ 140737488355328)) (bsplit q42 (∃ (z' : Nat), ((z' < List.length (Big.l x) ∧ z' < z) ∧ nat_lit 3 = 3 ∧ (nat_lit 2 = 2 ∧ 0 = 0) ∧ IntKind.i64 = .i64 ∧ (↑z : Int) - (1 : Int) - (1 : Int) = (↑z' : Int) - (1 : Int)) ∧ ((((q17 ∧ 108 = 108 ∧ 2 = 2 ∧ (1 = 1 ∧ 0 = 0) ∧ nat_lit 5 = 5 ∧ 0 = 0 ∧ List.length (wrTx x z') = List.length (wrTx x z) + List.length q41 + List.length q39) ∧ 57 = 57 ∧ 1 = 1 ∧ avM q18 q18) ∧
 LoopState.ready = LoopState.ready ∧ Non Code = Non Code) ∧ True) ∧ (5 : TypeId) = 5 ∧ 1 = 1 ∧ List.length (wrTx x z') = List.length (wrTx x z) + List.length q41 + List.length q39 ∧ ∀ (i j : Nat), i < List.length (wrTx x z) + List.length q41 + List.length q39 → j < 1 → avM (if i < List.length (wrTx x z) + List.length q41 then if i < List.length (wrTx x z) then AV.v (Value.int IntKind.u8 (↑(UInt8.toNat (List.getD (wrTx x z) i (0 : UInt8))) : Int)) else AV.v (Value.int IntKind.u8 (↑(UInt8.toNat (List.getD q41 (i - List.length (wrTx x z)) (0 : UInt8))) : Int)) else AV.v (Value.int IntKind.u8
 (↑(UInt8.toNat (List.getD q39 (i - q40) (0 : UInt8))) : Int))) (AV.v (Value.int IntKind.u8 (↑(UInt8.toNat (List.getD (wrTx x z') i (0 : UInt8))) : Int)))) False) False) False) False) (bsplit (DB.db ((List.length (wrTx x z) + List.length q39) * 1 ≤ 140737488355328)) (bsplit q42 (∃ (z' : Nat), ((z' < List.length (Big.l x) ∧ z' < z) ∧ nat_lit 3 = 3 ∧ (nat_lit 2 = 2 ∧ 0 = 0) ∧ IntKind.i64 = .i64 ∧ (↑z : Int) - (1 : Int) - (1 : Int) = (↑z' : Int) - (1 : Int)) ∧ ((((q17 ∧ 108 = 108 ∧ 2 = 2 ∧ (1 = 1 ∧ 0 = 0) ∧ nat_lit 5 = 5 ∧ 0 = 0 ∧ List.length (wrTx x z') = List.length (wrTx x z) + List.length q39)
 ∧ 57 = 57 ∧ 1 = 1 ∧ avM q18 q18) ∧ LoopState.ready = LoopState.ready ∧ Non Code = Non Code) ∧ True) ∧ (5 : TypeId) = 5 ∧ 1 = 1 ∧ List.length (wrTx x z') = List.length (wrTx x z) + List.length q39 ∧ ∀ (i j : Nat), i < List.length (wrTx x z) + List.length q39 → j < 1 → avM (if i < List.length (wrTx x z) then AV.v (Value.int IntKind.u8 (↑(UInt8.toNat (List.getD (wrTx x z) i (0 : UInt8))) : Int)) else AV.v (Value.int IntKind.u8 (↑(UInt8.toNat (List.getD q39 (i - List.length (wrTx x z)) (0 : UInt8))) : Int))) (AV.v (Value.int IntKind.u8 (↑(UInt8.toNat (List.getD (wrTx x z') i (0 : UInt8))) : Int))))
 False) False)) False) False) (0 < List.length (wrTx x z) ∧ ∃ (l : List UInt8), List.length l = List.length (wrTx x z) ∧ (∀ (i : Nat), i < List.length (wrTx x z) → AV.v (Value.int IntKind.u8 (↑(UInt8.toNat (List.getD (wrTx x z) i (0 : UInt8))) : Int)) = AV.v (Value.int IntKind.u8 (↑(UInt8.toNat (List.getD l i (0 : UInt8))) : Int))) ∧ l = itoa q1)) False) False)) False) False) ([] = itoa q1)) False)) := by
  dsimp only
  intro hb
  have e0 : (Enc.dflt : Int) = 0 := rfl
  simp only [↓vc_db, ↓vc_gdb, row_one]
  simp only [sS, dS, e0]
  refine ⟨fun hz => ?_, fun hz => ?_⟩
  · have he : x.l = [] := List.eq_nil_of_length_eq_zero (by omega)
    rw [he]
    have : itoa ((0 : Nat) : Int) = [48] := by rw [Go.Ar.itoa_nat, decDigits_small (by omega)]; rfl
    cases x.neg <;> exact this.symm
  have h0 : 0 < x.l.length := by omega
  have en : ((x.l.length : Int) - 1).toNat = x.l.length - 1 := by omega
  have ez : ∀ z : Nat, ((z : Int) - 1).toNat = z - 1 := fun z => by omega
  simp only [en, ez, Nat.mul_one]
  have gN := hx.get (by omega) (x.l.length - 1)
  obtain ⟨i1, i2, i3⟩ := itoa_limb gN.1 gN.2
  have f1 := wr_first hx h0
  refine bsplit_iff.2 ⟨fun c => ⟨⟨by omega, by omega⟩, fun _ => ⟨⟨by omega, by omega⟩, ⟨by omega, by omega⟩, ⟨by omega, by omega⟩, fun h => absurd h (by omega), fun _ => ⟨by omega, ⟨by omega, by omega⟩, ⟨x.l.length - 1, ⟨⟨by omega, by omega⟩, by omega⟩, ?_, ?_, fun i j _ _ => ?_⟩, ?_⟩⟩, fun h => absurd h (by omega)⟩,
    fun c => ⟨⟨by omega, by omega⟩, fun _ => ⟨⟨by omega, by omega⟩, ⟨by omega, by omega⟩, ⟨by omega, by omega⟩, fun h => absurd h (by omega), fun _ => ⟨by omega, ⟨by omega, by omega⟩, ⟨x.l.length - 1, ⟨⟨by omega, by omega⟩, by omega⟩, ?_, ?_, fun i j _ _ => ?_⟩, ?_⟩⟩, fun h => absurd h (by omega)⟩⟩
  all_goals try rw [c] at f1
  · rw [f1]; simp only [cond_true, List.length_append, List.length_singleton]
  · rw [f1]; simp only [cond_true, List.length_append, List.length_singleton]
  · rw [f1]; exact cat1 45 _ i
  rotate_left
  · rw [f1]; rfl
  · rw [f1]; rfl
  · rw [f1]; rfl
  all_goals
    intro z hz1
    have wl := wr_len hx z
    refine ⟨fun hz2 => ?_, fun hz2 => ?_⟩
    · have g := hx.get (by omega) (z - 1)
      obtain ⟨g1, g2, g3⟩ := itoa_limb g.1 g.2
      have hs := wr_step hx ht (z := z) (by omega) hz1
      have lr : (List.replicate (9 - ((itoa (x.l.getD (z - 1) 0)).length : Int)).toNat (48 : UInt8)).length ≤ 8 := by rw [List.length_replicate]; omega
      refine ⟨⟨by omega, by omega⟩, ⟨by omega, by omega⟩, ⟨by omega, by omega⟩, fun _ => ⟨⟨by omega, by omega⟩, ⟨by omega, by omega⟩, by omega, by omega, ⟨by omega, by omega⟩, z - 1, ⟨⟨by omega, by omega⟩, by omega⟩, ?_, ?_, fun i j _ _ => ?_⟩, fun h => absurd h (by omega)⟩
      · rw [hs, List.length_append, List.length_append]
      · rw [hs, List.length_append, List.length_append]
      · rw [hs]; exact cat3 _ _ _ i
    · obtain rfl : z = 0 := by omega
      obtain ⟨w1, w2⟩ := wr_end hx ht h0
      exact ⟨w2, wrTx x 0, rfl, fun _ _ => rfl, w1⟩
theorem iwrite_C {G : List (Nat × Obj)} (hG : TabIn G) (x : Big) (hx : InL 1000000000 x.l) (ht : trimL x.l = x.l) (hl : x.l.length ≤ 100000000) : PureCall Tryz.prog G 205 [agE x] (.str (itoa (bif x.neg then - valL 1000000000 x.l else valL 1000000000 x.l))) :=
  pure_of_vc (T := TWr G) (an := iwr_an x) mixed (TWr_sound hG) (Eq.mp (by kernel_rfl) (iwrite_vc G x hx ht hl))
theorem iwrite_T {G : List (Nat × Obj)} (hG : TabIn G) : PureT Tryz.prog G 205 iwrite_t := by
  intro xs ps r h hp
  unfold iwrite_t at h
  split at h
  · skip
    rename_i x_x
    cases h
    obtain ⟨q0, q1, q2, q3, -⟩ := allC hp
    exact weaken (ys := [agE (agD (α := Big) x_x)]) ⟨agE_sound q0, trivial⟩ (iwrite_C hG (agD (α := Big) x_x) q1 q2 q3)
  · cases h
end Go.Te

namespace Go.Te
open Go Go.Sx Go.Proofs Go.Ar
set_option maxRecDepth 100000
set_option maxHeartbeats 4000000
def sval (n : Bool) (l : List Int) : Int := bif n then - valL 1000000000 l else valL 1000000000 l
theorem agD_bigE (x : Big) : agD (AV.agg 2 fun i => Enc.enc x i) = x := agD_agE x
theorem agOk_bigE (x : Big) : agOk Big (AV.agg 2 fun i => Enc.enc x i) = true := agOk_agE x
theorem own_itoa (n : Int) : (ownS (Lib.itoa n)).length = nDg n := by
  obtain ⟨h1, h2⟩ := itoa_intB n
  rw [← (int_own (Lib.itoa n)).2, lenD_eq h1, h2]
def iresult_t : List AV → Option (List Cond × AV)
  | [x_x] => some ([.b (agOk Big x_x), .p (InL 1000000000 (agD (α := Big) x_x).l), .p (trimL (agD (α := Big) x_x).l = (agD (α := Big) x_x).l), .p ((agD (α := Big) x_x).l.length ≤ 100000000)], .tup 2 (listFn [.str (resS (sval (agD (α := Big) x_x).neg (agD (α := Big) x_x).l)), .i (resE (sval (agD (α := Big) x_x).neg (agD (α := Big) x_x).l))]))
  | _ => none
theorem iresult_vc (G : List (Nat × Obj)) (x : Big) (hx : InL 1000000000 x.l) (ht : trimL x.l = x.l) (hl : x.l.length ≤ 100000000) :
 let q1 := (AV.agg 2 fun (i : Nat) => Enc.enc x (0 + i)); let q3 := (agD q1); let q2 := (Big.l q3); let q4 := (bif Big.neg q3 then -valL (1000000000 : Int) q2 else valL (1000000000 : Int) q2); bndL [AV.agg 2 (Enc.enc x)] → bsplit (agOk Big q1) ((∀ (x_1 : Int), List.Mem x_1 q2 → (0 : Int) ≤ x_1 ∧ x_1 < (1000000000 : Int)) ∧ trimL q2 = Big.l q3 ∧ List.length q2 ≤ 100000000 ∧ bsplit (ltB (300 : Int) (↑(List.length (ownS (Lib.itoa q4))) : Int)) (2 = List.length [AV.junk, AV.junk] ∧ (True ∧ Array.toList (ByteArray.data (ByteArray.mk #[])) = resS (sval (Big.neg x) (Big.l x))) ∧ IntKind.i64 = .i64 ∧ (4
 : Int) = resE (sval (Big.neg x) (Big.l x))) (2 = List.length [AV.junk, AV.junk] ∧ (True ∧ Lib.itoa q4 = resS (sval (Big.neg x) (Big.l x))) ∧ IntKind.i64 = .i64 ∧ (0 : Int) = resE (sval (Big.neg x) (Big.l x)))) False := by
  dsimp only
  intro hb
  have e0 : (Enc.dflt : Int) = 0 := rfl
  simp only [↓vc_db, ↓vc_gdb, row_one]
  simp only [sS, dS, e0, agD_bigE, agOk_bigE]
  refine ⟨hx, ht, hl, fun h => ?_, fun h => ?_⟩
  all_goals
    have hn := own_itoa (sval x.neg x.l)
    unfold sval at hn
    rw [hn] at h
    unfold resS resE sval
  · rw [(blt_iff _ _).2 (show 300 < nDg _ by omega)]
    exact ⟨rfl, rfl, rfl⟩
  · rw [show Nat.blt 300 (nDg (bif x.neg then - valL 1000000000 x.l else valL 1000000000 x.l)) = false from Bool.eq_false_iff.2 fun e => by have := (blt_iff _ _).1 e; omega]
    exact ⟨rfl, rfl, rfl⟩
theorem iresult_C {G : List (Nat × Obj)} (hG : TabIn G) (x : Big) (hx : InL 1000000000 x.l) (ht : trimL x.l = x.l) (hl : x.l.length ≤ 100000000) : PureCall Tryz.prog G 148 [agE x] (.tup 2 (listFn [.str (resS (sval x.neg x.l)), .i (resE (sval x.neg x.l))])) :=
  pure_of_vc (T := ((TIt G).plus 205 iwrite_t).plus 44 (dash_t fun s => .str (ownS s))) (an := .auto) mixed (TbSound.plus (TbSound.plus (TIt_sound hG) (iwrite_T hG)) (PureT.mono trimP_T)) (Eq.mp (by kernel_rfl) (iresult_vc G x hx ht hl))
theorem iresult_T {G : List (Nat × Obj)} (hG : TabIn G) : PureT Tryz.prog G 148 iresult_t := by
  intro xs ps r h hp
  unfold iresult_t at h
  split at h
  · skip
    rename_i x_x
    cases h
    obtain ⟨q0, q1, q2, q3, -⟩ := allC hp
    exact weaken (ys := [agE (agD (α := Big) x_x)]) ⟨agE_sound q0, trivial⟩ (iresult_C hG (agD (α := Big) x_x) q1 q2 q3)
  · cases h
def icom_t (xs : List AV) : Option (List Cond × AV) :=
  match icomP_t xs with
  | some r => some r
  | none => icomM_t xs
theorem icom_T : PureT Tryz.prog [] 206 icom_t := by
  intro xs ps r h hp
  unfold icom_t at h
  split at h
  · rename_i r' h'
    cases h
    exact icomP_T _ _ _ h' hp
  · exact icomM_T _ _ _ h hp
noncomputable def Tad : Tb := (T0.plus 206 icom_t).plus 208 icmp_t
theorem Tad_sound : TbSound Tryz.prog Tad := TbSound.plus (TbSound.plus tb0_sound icom_T) icmp_T
def adN (x y : Big) : Bool := bif x.neg == y.neg then x.neg else bif leB 0 (cmpL x.l y.l) then x.neg else y.neg
def adV (x y : Big) : Int := bif x.neg == y.neg then valL 1000000000 x.l + valL 1000000000 y.l else bif leB 0 (cmpL x.l y.l) then valL 1000000000 x.l - valL 1000000000 y.l else valL 1000000000 y.l - valL 1000000000 x.l
theorem cmpLe {x y : List Int} (hx : InL 1000000000 x) (hy : InL 1000000000 y) (tx : trimL x = x) (ty : trimL y = y) : (0 ≤ cmpL x y ↔ valL 1000000000 y ≤ valL 1000000000 x) := by
  have e1 : x = limbs 1000000000 (valL 1000000000 x).toNat := limbs_eq (b := 1000000000) (by omega) hx tx
  have e2 : y = limbs 1000000000 (valL 1000000000 y).toNat := limbs_eq (b := 1000000000) (by omega) hy ty
  have v1 := valL_nonneg (b := 1000000000) (by omega) hx
  have v2 := valL_nonneg (b := 1000000000) (by omega) hy
  have c := (cmpL_sign (b := 1000000000) (by omega) (valL 1000000000 x).toNat (valL 1000000000 y).toNat).1
  rw [← e1, ← e2] at c
  omega
def iadd_t : List AV → Option (List Cond × AV)
  | [x_x, x_y] => some ([.b (agOk Big x_x), .b (agOk Big x_y), .p (InL 1000000000 (agD (α := Big) x_x).l), .p (InL 1000000000 (agD (α := Big) x_y).l), .p (trimL (agD (α := Big) x_x).l = (agD (α := Big) x_x).l), .p (trimL (agD (α := Big) x_y).l = (agD (α := Big) x_y).l), .p ((agD (α := Big) x_x).l.length ≤ 1000000000), .p ((agD (α := Big) x_y).l.length ≤ 1000000000)], .agg 2 (listFn [.b (adN (agD (α := Big) x_x) (agD (α := Big) x_y)), slE (limbs 1000000000 (adV (agD (α := Big) x_x) (agD (α := Big) x_y)).toNat)]))
  | _ => none
theorem iadd_vc (x : Big) (y : Big) (hx : InL 1000000000 x.l) (hy : InL 1000000000 y.l) (tx : trimL x.l = x.l) (ty : trimL y.l = y.l) (lx : x.l.length ≤ 1000000000) (ly : y.l.length ≤ 1000000000) :
 let q2 := (AV.xl false 1 (List.length (Big.l x)) fun i j => AV.v (Value.int .i64 (List.getD (Big.l x) i Enc.dflt))); let q1 := (slOk Int q2); let q4 := (AV.xl false 1 (List.length (Big.l y)) fun i j => AV.v (Value.int .i64 (List.getD (Big.l y) i Enc.dflt))); let q3 := (slOk Int q4); let q6 := (intsOf q2); let q5 := (∀ (x_1 : Int), List.Mem x_1 q6 → (0 : Int) ≤ x_1 ∧ x_1 < (1000000000 : Int)); let q8 := (intsOf q4); let q7 := (∀ (x : Int), List.Mem x q8 → (0 : Int) ≤ x ∧ x < (1000000000 : Int)); let q9 := (limbs 1000000000 (Int.toNat (adV x y))); let q10 := (limbs 1000000000 (Int.toNat (valL
 (1000000000 : Int) q6 + valL (1000000000 : Int) q8))); let q11 := (limbs 1000000000 (Int.toNat (valL (1000000000 : Int) q6 - valL (1000000000 : Int) q8))); let q12 := (limbs 1000000000 (Int.toNat (valL (1000000000 : Int) q8 - valL (1000000000 : Int) q6))); bndL [AV.agg 2 (Enc.enc x), AV.agg 2 (Enc.enc y)] → bsplit (Big.neg x == Big.neg y) (bsplit q1 (bsplit q3 (q5 ∧ q7 ∧ List.length q6 ≤ 1000000000 ∧ List.length q8 ≤ 1000000000 ∧ 2 = 2 ∧ Big.neg x = adN x y ∧ (false = true → false = true) ∧ 1 = 1 ∧ List.length q9 = List.length q10 ∧ ∀ (i j : Nat), i < List.length q10 → j < 1 → IntKind.i64 =
 .i64 ∧ List.getD q10 i Enc.dflt = List.getD q9 i Enc.dflt) False) False) (bsplit q1 (bsplit q3 (q5 ∧ q7 ∧ bsplit (leB (0 : Int) (cmpL q6 q8)) (bsplit q1 (bsplit q3 (q5 ∧ q7 ∧ List.length q6 ≤ 1000000000 ∧ List.length q8 ≤ 1000000000 ∧ valL (1000000000 : Int) q8 ≤ valL (1000000000 : Int) q6 ∧ 2 = 2 ∧ Big.neg x = adN x y ∧ (false = true → false = true) ∧ 1 = 1 ∧ List.length q9 = List.length q11 ∧ ∀ (i j : Nat), i < List.length q11 → j < 1 → IntKind.i64 = .i64 ∧ List.getD q11 i Enc.dflt = List.getD q9 i Enc.dflt) False) False) (bsplit q3 (bsplit q1 (q7 ∧ q5 ∧ List.length q8 ≤ 1000000000 ∧
 List.length q6 ≤ 1000000000 ∧ valL (1000000000 : Int) q6 ≤ valL (1000000000 : Int) q8 ∧ 2 = 2 ∧ Big.neg y = adN x y ∧ (false = true → false = true) ∧ 1 = 1 ∧ List.length q9 = List.length q12 ∧ ∀ (i j : Nat), i < List.length q12 → j < 1 → IntKind.i64 = .i64 ∧ List.getD q12 i Enc.dflt = List.getD q9 i Enc.dflt) False) False)) False) False) := by
  dsimp only
  intro hb
  have e0 : (Enc.dflt : Int) = 0 := rfl
  simp only [↓vc_db, ↓vc_gdb, row_one]
  simp only [sS, dS, e0]
  refine bsplit_iff.2 ⟨fun c => ⟨hx, hy, lx, ly, ?_, fun h => h, ?_, fun i j _ _ => ?_⟩, fun c => ⟨hx, hy, fun h => ⟨hx, hy, lx, ly, (cmpLe hx hy tx ty).1 h, ?_, fun h => h, ?_, fun i j _ _ => ?_⟩, fun h => ⟨hy, hx, ly, lx, ?_, ?_, fun h => h, ?_, fun i j _ _ => ?_⟩⟩⟩
  any_goals (unfold adN; rw [c]; first | rfl | (rw [show leB 0 (cmpL x.l y.l) = true from (leB_iff _ _).2 h]; rfl) | (rw [show leB 0 (cmpL x.l y.l) = false from Bool.eq_false_iff.2 fun e => by have := (leB_iff _ _).1 e; omega]; rfl))
  any_goals (unfold adV; rw [c]; first | rfl | (rw [show leB 0 (cmpL x.l y.l) = true from (leB_iff _ _).2 h]; rfl) | (rw [show leB 0 (cmpL x.l y.l) = false from Bool.eq_false_iff.2 fun e => by have := (leB_iff _ _).1 e; omega]; rfl))
  have := cmpLe hx hy tx ty
  omega
theorem iadd_C (x : Big) (y : Big) (hx : InL 1000000000 x.l) (hy : InL 1000000000 y.l) (tx : trimL x.l = x.l) (ty : trimL y.l = y.l) (lx : x.l.length ≤ 1000000000) (ly : y.l.length ≤ 1000000000) : PureCall Tryz.prog [] 149 [agE x, agE y] (.agg 2 (listFn [.b (adN x y), slE (limbs 1000000000 (adV x y).toNat)])) :=
  pure_of_vc (T := Tad) (an := .auto) mixed Tad_sound (Eq.mp (by kernel_rfl) (iadd_vc x y hx hy tx ty lx ly))
theorem iadd_T : PureT Tryz.prog [] 149 iadd_t := by
  intro xs ps r h hp
  unfold iadd_t at h
  split at h
  · skip
    rename_i x_x x_y
    cases h
    obtain ⟨q0, q1, q2, q3, q4, q5, q6, q7, -⟩ := allC hp
    exact weaken (ys := [agE (agD (α := Big) x_x), agE (agD (α := Big) x_y)]) ⟨agE_sound q0, agE_sound q1, trivial⟩ (iadd_C (agD (α := Big) x_x) (agD (α := Big) x_y) q2 q3 q4 q5 q6 q7)
  · cases h
theorem sval_add {x y : Big} (hx : InL 1000000000 x.l) (hy : InL 1000000000 y.l) (tx : trimL x.l = x.l) (ty : trimL y.l = y.l) :
    0 ≤ adV x y ∧ (bif adN x y then - adV x y else adV x y) = sval x.neg x.l + sval y.neg y.l := by
  have v1 := valL_nonneg (b := 1000000000) (by omega) hx
  have v2 := valL_nonneg (b := 1000000000) (by omega) hy
  have c := cmpLe hx hy tx ty
  unfold adN adV sval
  cases hl : leB 0 (cmpL x.l y.l) with
  | true =>
    rw [leB_iff, c] at hl
    cases x.neg <;> cases y.neg <;> simp <;> omega
  | false =>
    have hl : ¬ 0 ≤ cmpL x.l y.l := fun e => by rw [(leB_iff _ _).2 e] at hl; cases hl
    rw [c] at hl
    cases x.neg <;> cases y.neg <;> simp <;> omega
end Go.Te

namespace Go.Te
open Go Go.Sx Go.Proofs Go.Ar
set_option maxRecDepth 100000
set_option maxHeartbeats 4000000
def obInts : OB → List Int
  | .arr _ _ n els => (List.range n).map fun i => AV.int (els i 0)
  | _ => []
theorem obI (l : List Int) : obInts (OB.arr 3 1 l.length fun i x => AV.v (Value.int IntKind.i64 (l.getD i 0))) = l := by
  have e : ((List.range l.length).map fun i => l.getD i 0) = l := by
    apply List.ext_getElem
    · simp
    · intro i h1 h2
      rw [List.getElem_map, List.getElem_range, List.getD_eq_getElem?_getD, List.getElem?_eq_getElem h2]
      rfl
  exact e
def itrimO_an  : Ann :=
  .two .auto (.two (.one (.loop Nat (fun σ z => [(0, .ns (blkAt (σ.tm 0)) 0 z)]) (fun σ z => []) 0 (fun σ z => z ≤ (obInts (σ.bl (blkAt (σ.tm 0)))).length ∧ ∀ i, z ≤ i → (obInts (σ.bl (blkAt (σ.tm 0)))).getD i 0 = 0) (fun σ z => z) .auto)) .auto)
theorem trim_exit {l : List Int} {z : Nat} (h1 : z ≤ l.length) (h2 : ∀ i, z ≤ i → l.getD i 0 = 0) (c : (ltB 0 (z : Int) && l.getD ((z : Int) - 1).toNat 0 == 0) = false) : trimL l = l.take z := by
  refine trim_take h1 h2 ?_
  by_cases hz : z = 0
  · exact .inl hz
  · refine .inr fun e => ?_
    rw [(ltB_iff _ _).2 (by omega), show ((z : Int) - 1).toNat = z - 1 by omega, e] at c
    cases c
theorem trim_step {l : List Int} {z : Nat} (h2 : ∀ i, z ≤ i → l.getD i 0 = 0) (c : (ltB 0 (z : Int) && l.getD ((z : Int) - 1).toNat 0 == 0) = true) : 0 < z ∧ ∀ i, z - 1 ≤ i → l.getD i 0 = 0 := by
  rw [Bool.and_eq_true, beq_iff_eq, ltB_iff] at c
  have c2 := c.2
  rw [show ((z : Int) - 1).toNat = z - 1 by omega] at c2
  refine ⟨by omega, fun i hi => ?_⟩
  by_cases e : i = z - 1
  · rw [e]; exact c2
  · exact h2 i (by omega)
theorem slM {l m : List Int} {z : Nat} (hz : z ≤ m.length) (h : m.take z = l) : avM (AV.xl false 1 z fun i x => AV.v (Value.int IntKind.i64 (m.getD i 0))) (AV.xl false 1 l.length fun i j => AV.v (Value.int IntKind.i64 (l.getD i 0))) := by
  have hl : z = l.length := by rw [← h, List.length_take]; omega
  rw [← hl]
  refine ⟨fun h => h, rfl, rfl, fun i j hi _ => ?_⟩
  rw [← h]
  show avM (AV.v (Value.int IntKind.i64 (m.getD i 0))) (AV.v (Value.int IntKind.i64 ((m.take z).getD i 0)))
  rw [getD_takeN hi]
  exact avM_refl _
noncomputable def Tds : Tb := (T0.plus 212 itrim_t).body Tryz.prog [(239, .auto), (212, itrimO_an)]
theorem Tds_sound : TbSound Tryz.prog Tds := TbSound.body mixed (TbSound.plus tb0_sound itrim_T) _
structure IsS where
  z : Nat
  q : List Int
  r : Int
def ids_it (a : List Int) (d : Int) : Ann :=
  .two .auto (.one (.loop IsS (fun σ z => [(0, σ.tm 0), (1, σ.tm 1), (3, .i ((z.z : Int) - 1))]) (fun _ z => [(2, iArr z.q), (3, .box 3 1 fun _ => .i z.r)]) 0
    (fun _ z => ShZ 1000000000 d a z.z z.q z.r) (fun _ z => z.z) .auto))
def ids_an (a : List Int) (d : Int) : Ann :=
  .two .auto (.two .auto (.two .auto (.two (.two .auto (.one (.range (ids_it a d) .auto .auto))) .auto)))
def idivS_t : List AV → Option (List Cond × AV)
  | [x_a, .v (.int .i64 d)] => some ([.b (slOk Int x_a), .p (InL 1000000000 (intsOf x_a)), .p (0 < d ∧ d ≤ 1000000000), .p ((intsOf x_a).length ≤ 1000000000)], .tup 2 (listFn [slE (limbs 1000000000 ((valL 1000000000 (intsOf x_a)).toNat / d.toNat)), slE (limbs 1000000000 ((valL 1000000000 (intsOf x_a)).toNat % d.toNat))]))
  | _ => none
theorem idivS_vc (a : List Int) (d : Int) (ha : InL 1000000000 a) (hd : 0 < d ∧ d ≤ 1000000000) (hl : a.length ≤ 1000000000) :
 let q1 := ((3 = 3 ∧ 1 = 1 ∧ IntKind.i64 = .i64 ∧ d = d) ∧ 57 = 57 ∧ 1 = 1 ∧ nat_lit 2 = 2 ∧ 0 = 0 ∧ Int.toNat (↑(List.length a) : Int) = Int.toNat (↑(List.length a) : Int)); let q2 := (AV.xl false 1 (List.length a) fun i j => AV.v (Value.int .i64 (List.getD a i Enc.dflt))); let q13 := (limbs 1000000000 (Int.toNat (valL (1000000000 : Int) a) / Int.toNat d)); let q12 := (AV.xl false 1 (List.length q13) fun i j => AV.v (Value.int .i64 (List.getD q13 i Enc.dflt))); let q17 := (limbs 1000000000 (Int.toNat (valL (1000000000 : Int) a) % Int.toNat d)); let q16 := (AV.xl false 1 (List.length q17) fun i
 j => AV.v (Value.int .i64 (List.getD q17 i Enc.dflt))); bndL [AV.xl false 1 (List.length a) fun i j => AV.v (Value.int .i64 (List.getD a i Enc.dflt)), AV.v (Value.int .i64 d)] → bsplit (DB.db ((0 : Int) ≤ (↑(List.length a) : Int) ∧ (↑(List.length a) : Int) ≤ (↑(List.length a) : Int) ∧ (↑8 : Int) * (↑(List.length a) : Int) ≤ (140737488355328 : Int))) (bsplit (DB.db (inK .i64 ((↑(List.length a) : Int) - (1 : Int)))) ((∃ (z : IsS), (ShZ (1000000000 : Int) d a (IsS.z z) (IsS.q z) (IsS.r z) ∧ nat_lit 5 = 5 ∧ (nat_lit 4 = 4 ∧ 0 = 0) ∧ IntKind.i64 = .i64 ∧ (↑(List.length a) : Int) - (1 : Int) =
 (↑(IsS.z z) : Int) - (1 : Int)) ∧ (((q1 ∧ (3 : TypeId) = 3 ∧ 1 = 1 ∧ List.length (IsS.q z) = Int.toNat (↑(List.length a) : Int) ∧ ∀ (i j : Nat), i < Int.toNat (↑(List.length a) : Int) → j < 1 → avM (zcell (Value.int .i64 (0 : Int)) j) (AV.v (Value.int .i64 (List.getD (IsS.q z) i (0 : Int))))) ∧ (3 : TypeId) = 3 ∧ 1 = 1 ∧ IntKind.i64 = .i64 ∧ (0 : Int) = IsS.r z) ∧ 57 = 57 ∧ 1 = 1 ∧ avM q2 q2) ∧ LoopState.ready = LoopState.ready ∧ Non Code = Non Code) ∧ ∀ (z : IsS), let q3 := (List.getD a (Int.toNat ((↑(IsS.z z) : Int) - (1 : Int))) Enc.dflt + IsS.r z * (1000000000 : Int)); let q4 := (Int.tdiv
 q3 d); let q6 := (bsplit (DB.db (inK .i64 ((↑(IsS.z z) : Int) - (1 : Int) - (1 : Int)))) (∃ (z' : IsS), ((ShZ (1000000000 : Int) d a (IsS.z z') (IsS.q z') (IsS.r z') ∧ IsS.z z' < IsS.z z) ∧ nat_lit 5 = 5 ∧ (nat_lit 4 = 4 ∧ 0 = 0) ∧ IntKind.i64 = .i64 ∧ (↑(IsS.z z) : Int) - (1 : Int) - (1 : Int) = (↑(IsS.z z') : Int) - (1 : Int)) ∧ (((q1 ∧ 3 = 3 ∧ 1 = 1 ∧ List.length (IsS.q z') = List.length (IsS.q z) ∧ ∀ (i j : Nat), i < List.length (IsS.q z) → j < 1 → avM (if i = 0 + Int.toNat ((↑(IsS.z z) : Int) - (1 : Int)) ∧ 0 ≤ j ∧ j < 1 then AV.v (Value.int .i64 q4) else AV.v (Value.int .i64 (List.getD
 (IsS.q z) i (0 : Int)))) (AV.v (Value.int .i64 (List.getD (IsS.q z') i (0 : Int))))) ∧ 3 = 3 ∧ 1 = 1 ∧ IntKind.i64 = .i64 ∧ Int.tmod q3 d = IsS.r z') ∧ 57 = 57 ∧ 1 = 1 ∧ avM q2 q2) ∧ LoopState.ready = LoopState.ready ∧ Non Code = Non Code) False); let q5 := ((bsplit (DB.db (d ≠ (0 : Int))) q6 False ∧ bsplit (DB.db (d ≠ (0 : Int))) q6 False) ∧ bsplit (DB.db (d ≠ (0 : Int))) q6 False); let q9 := (obInts (OB.arr (3 : TypeId) 1 (List.length (IsS.q z)) fun (i x : Nat) => AV.v (Value.int .i64 (List.getD (IsS.q z) i (0 : Int))))); let q10 := (((q1 ∧ 3 = 3 ∧ 1 = 1 ∧ List.length (IsS.q z) = List.length
 (IsS.q z) ∧ ∀ (i j : Nat), i < List.length (IsS.q z) → j < 1 → IntKind.i64 = .i64 ∧ List.getD (IsS.q z) i (0 : Int) = List.getD (IsS.q z) i (0 : Int)) ∧ 3 = 3 ∧ 1 = 1 ∧ IntKind.i64 = .i64 ∧ IsS.r z = IsS.r z) ∧ 57 = 57 ∧ 1 = 1 ∧ avM q2 q2); let q8 := (∃ (z_1 : Nat), ((z_1 ≤ List.length q9 ∧ ∀ (i : Nat), z_1 ≤ i → List.getD (obInts (OB.arr (3 : TypeId) 1 (List.length (IsS.q z)) fun (i x : Nat) => AV.v (Value.int .i64 (List.getD (IsS.q z) i (0 : Int))))) i (0 : Int) = (0 : Int)) ∧ nat_lit 2 = 2 ∧ 0 = 0 ∧ z_1 = Int.toNat (↑(List.length a) : Int)) ∧ q10 ∧ True); let q15 := (trimL (intsOf (AV.xl
 true 1 1 (Sx.rowAt [fun (x : Nat) => AV.v (Value.int .i64 (IsS.r z))])))); let q14 := (AV.xl false 1 (List.length q15) fun i j => AV.v (Value.int .i64 (List.getD q15 i Enc.dflt))); let q7 := (q8 ∧ ∀ (z_1 : Nat), let q11 := (!bsel true (ltB (0 : Int) (↑z_1 : Int)) || bsel true (ltB (0 : Int) (↑z_1 : Int))); (z_1 ≤ List.length q9 ∧ ∀ (i : Nat), z_1 ≤ i → List.getD (obInts (OB.arr (3 : TypeId) 1 (List.length (IsS.q z)) fun (i x : Nat) => AV.v (Value.int .i64 (List.getD (IsS.q z) i (0 : Int))))) i (0 : Int) = (0 : Int)) → bsplit q11 (bsplit q11 (bsplit (!bsel true (ltB (0 : Int) (↑z_1 : Int)) ||
 DB.db (inK .i64 ((↑z_1 : Int) - (1 : Int)))) (bsplit q11 (bsplit q11 (bsplit (!bsel true (ltB (0 : Int) (↑z_1 : Int)) || DB.db ((0 : Int) ≤ (↑z_1 : Int) - (1 : Int) ∧ (↑z_1 : Int) - (1 : Int) < (↑z_1 : Int))) (bsplit q11 (bsplit q11 (bsplit (!ltB (0 : Int) (↑z_1 : Int) || bsel true (ltB (0 : Int) (↑z_1 : Int))) (bsplit (bif ltB (0 : Int) (↑z_1 : Int) then List.getD (IsS.q z) (0 + Int.toNat ((↑z_1 : Int) - (1 : Int))) (0 : Int) == (0 : Int) else false) (bsplit (DB.db (inK .i64 ((↑z_1 : Int) - (1 : Int)))) (bsplit (DB.db ((0 : Int) ≤ (↑z_1 : Int) - (1 : Int) ∧ (↑z_1 : Int) - (1 : Int) ≤ (↑z_1 :
 Int))) (∃ (z' : Nat), (((z' ≤ List.length q9 ∧ ∀ (i : Nat), z' ≤ i → List.getD (obInts (OB.arr (3 : TypeId) 1 (List.length (IsS.q z)) fun (i x : Nat) => AV.v (Value.int .i64 (List.getD (IsS.q z) i (0 : Int))))) i (0 : Int) = (0 : Int)) ∧ z' < z_1) ∧ nat_lit 2 = 2 ∧ 0 = 0 ∧ z' = Int.toNat ((↑z_1 : Int) - (1 : Int))) ∧ q10 ∧ True) False) False) (2 = List.length [AV.junk, AV.junk] ∧ (True ∧ avM (AV.xl false 1 z_1 fun i j => AV.v (Value.int .i64 (List.getD (IsS.q z) (0 + i) (0 : Int)))) q12) ∧ avM q14 q16)) False) False) False) False) False) False) False) False) False); ShZ (1000000000 : Int) d a
 (IsS.z z) (IsS.q z) (IsS.r z) → bsplit (leB (0 : Int) ((↑(IsS.z z) : Int) - (1 : Int))) (bsplit (DB.db ((0 : Int) ≤ (↑(IsS.z z) : Int) - (1 : Int) ∧ (↑(IsS.z z) : Int) - (1 : Int) < (↑(List.length a) : Int))) (bsplit (DB.db (inK .i64 (IsS.r z * (1000000000 : Int)))) (bsplit (DB.db (inK .i64 q3)) (bsplit (DB.db (d ≠ (0 : Int))) (bsplit (DB.db (inK .i64 q4)) (bsplit (DB.db ((0 : Int) ≤ (↑(IsS.z z) : Int) - (1 : Int) ∧ (↑(IsS.z z) : Int) - (1 : Int) < (↑(Int.toNat (↑(List.length a) : Int)) : Int))) (q5 ∧ q5 ∧ bsplit (DB.db (d ≠ (0 : Int))) q6 False) False) False) False) False) False) False) (q7 ∧
 q7 ∧ q8 ∧ ∀ (z_1 : Nat), let q18 := (!bsel true (ltB (0 : Int) (↑z_1 : Int)) || bsel true (ltB (0 : Int) (↑z_1 : Int))); (z_1 ≤ List.length q9 ∧ ∀ (i : Nat), z_1 ≤ i → List.getD (obInts (OB.arr (3 : TypeId) 1 (List.length (IsS.q z)) fun (i x : Nat) => AV.v (Value.int .i64 (List.getD (IsS.q z) i (0 : Int))))) i (0 : Int) = (0 : Int)) → bsplit q18 (bsplit q18 (bsplit (!bsel true (ltB (0 : Int) (↑z_1 : Int)) || DB.db (inK .i64 ((↑z_1 : Int) - (1 : Int)))) (bsplit q18 (bsplit q18 (bsplit (!bsel true (ltB (0 : Int) (↑z_1 : Int)) || DB.db ((0 : Int) ≤ (↑z_1 : Int) - (1 : Int) ∧ (↑z_1 : Int) - (1 :
 Int) < (↑z_1 : Int))) (bsplit q18 (bsplit q18 (bsplit (!ltB (0 : Int) (↑z_1 : Int) || bsel true (ltB (0 : Int) (↑z_1 : Int))) (bsplit (bif ltB (0 : Int) (↑z_1 : Int) then List.getD (IsS.q z) (0 + Int.toNat ((↑z_1 : Int) - (1 : Int))) (0 : Int) == (0 : Int) else false) (bsplit (DB.db (inK .i64 ((↑z_1 : Int) - (1 : Int)))) (bsplit (DB.db ((0 : Int) ≤ (↑z_1 : Int) - (1 : Int) ∧ (↑z_1 : Int) - (1 : Int) ≤ (↑z_1 : Int))) (∃ (z' : Nat), (((z' ≤ List.length q9 ∧ ∀ (i : Nat), z' ≤ i → List.getD (obInts (OB.arr (3 : TypeId) 1 (List.length (IsS.q z)) fun (i x : Nat) => AV.v (Value.int .i64 (List.getD
 (IsS.q z) i (0 : Int))))) i (0 : Int) = (0 : Int)) ∧ z' < z_1) ∧ nat_lit 2 = 2 ∧ 0 = 0 ∧ z' = Int.toNat ((↑z_1 : Int) - (1 : Int))) ∧ q10 ∧ True) False) False) (2 = List.length [AV.junk, AV.junk] ∧ (True ∧ avM (AV.xl false 1 z_1 fun i j => AV.v (Value.int .i64 (List.getD (IsS.q z) (0 + i) (0 : Int)))) q12) ∧ avM q14 q16)) False) False) False) False) False) False) False) False) False)) False) False := by
  dsimp only
  intro hb
  have e0 : (Enc.dflt : Int) = 0 := rfl
  simp only [↓vc_db, ↓vc_gdb, row_one]
  simp only [sS, dS, e0]
  simp only [and_self, obI, implies_true, and_true]
  obtain ⟨d0, d1⟩ := hd
  have va := valL_nonneg (b := 1000000000) (by omega) ha
  refine ⟨⟨by omega, by omega, by omega⟩, ⟨by omega, by omega⟩, ⟨⟨a.length, List.replicate a.length 0, 0⟩, ⟨.start (by omega) d0 a, rfl⟩, ⟨by simp, fun i j _ hj => zeroI _ i j hj⟩, rfl⟩, fun z z1 => ⟨fun hz => ?_, fun hz => ?_⟩⟩
  · have zle := z1.le
    have zl := z1.len
    have R0 := z1.r0
    have R1 := z1.r1
    have hzk : z.z - 1 + 1 = z.z := by omega
    obtain ⟨⟨n0, n1⟩, hs⟩ := (hzk.symm ▸ z1 : ShZ 1000000000 d a (z.z - 1 + 1) z.q z.r).step (by omega) ha
    have ek : ((z.z : Int) - 1).toNat = z.z - 1 := by omega
    rw [ek]
    have xk := ha.get (by omega) (z.z - 1)
    have q1 := hs.in_.get (by omega) (z.z - 1)
    rw [getD_setI _ _ _ _ (by omega), if_pos rfl] at q1
    generalize a.getD (z.z - 1) 0 + z.r * 1000000000 = N at *
    exact ⟨⟨by omega, by omega⟩, ⟨by omega, by omega⟩, ⟨by omega, by omega⟩, by omega, ⟨by omega, by omega⟩, ⟨by omega, by omega⟩, by omega, ⟨by omega, by omega⟩, ⟨z.z - 1, _, _⟩, ⟨⟨hs, by simp only; omega⟩, by simp only; omega⟩, ⟨by simp, fun i j _ => setI _ _ _ (by omega) i j⟩, rfl⟩
  · have zl := z1.len
    have hz0 : z.z = 0 := by have := z1.le; omega
    obtain ⟨D, rfl⟩ : ∃ D : Nat, d = D := ⟨d.toNat, by omega⟩
    obtain ⟨X, hX⟩ : ∃ X : Nat, valL 1000000000 a = X := ⟨(valL 1000000000 a).toNat, by omega⟩
    obtain ⟨t1, _, t3⟩ := (hz0 ▸ z1 : ShZ 1000000000 D a 0 z.q z.r).end_ (b := 1000000000) (by omega) (by omega) (by omega) X hX
    rw [hX]
    simp only [Int.toNat_natCast]
    refine ⟨⟨a.length, ⟨by omega, fun i hi => getD_outI (by omega)⟩, rfl⟩, fun k ⟨k1, k2⟩ => ⟨fun h => ?_, fun h => ?_, bsplit_iff.2 ⟨fun c => ?_, fun c => ?_⟩⟩⟩
    · have := (ltB_iff _ _).1 h; exact ⟨by omega, by omega⟩
    · have := (ltB_iff _ _).1 h; exact ⟨by omega, by omega⟩
    · obtain ⟨c1, c2⟩ := trim_step k2 c
      exact ⟨⟨by omega, by omega⟩, ⟨by omega, by omega⟩, k - 1, ⟨⟨by omega, c2⟩, by omega⟩, by omega⟩
    · have ht := trim_exit k1 k2 c
      refine ⟨rfl, slM k1 (ht.symm.trans t1), ?_⟩
      have er : intsOf (AV.xl true 1 1 fun x j => AV.v (Value.int IntKind.i64 z.r)) = [z.r] := rfl
      rw [er, show trimL [z.r] = limbs 1000000000 (X % D) from t3]
      exact avM_refl _
theorem idivS_C (a : List Int) (d : Int) (ha : InL 1000000000 a) (hd : 0 < d ∧ d ≤ 1000000000) (hl : a.length ≤ 1000000000) : PureCall Tryz.prog [] 252 [slE a, .i d] (.tup 2 (listFn [slE (limbs 1000000000 ((valL 1000000000 a).toNat / d.toNat)), slE (limbs 1000000000 ((valL 1000000000 a).toNat % d.toNat))])) :=
  pure_of_vc (T := Tds) (an := ids_an a d) mixed Tds_sound (Eq.mp (by kernel_rfl) (idivS_vc a d ha hd hl))
theorem idivS_T : PureT Tryz.prog [] 252 idivS_t := by
  intro xs ps r h hp
  unfold idivS_t at h
  split at h
  · skip
    rename_i x_a d
    cases h
    obtain ⟨q0, q1, q2, q3, -⟩ := allC hp
    exact weaken (ys := [slE (intsOf x_a), .i d]) ⟨slE_sound q0, avM_refl _, trivial⟩ (idivS_C (intsOf x_a) d q1 q2 q3)
  · cases h
def estR (b u2 v1 v2 : Int) : Nat → Int → Int → Int
  | 0, q, _ => q
  | n + 1, q, r => bif leB b q || (ltB r b && ltB (r * b + u2) (q * v2)) then (bif leB b (r + v1) then q - 1 else estR b u2 v1 v2 n (q - 1) (r + v1)) else q
def estF (b : Int) (u v : List Int) (j : Nat) : Int :=
  estR b (u.getD (j + v.length - 2) 0) (v.getD (v.length - 1) 0) (v.getD (v.length - 2) 0) ((u.getD (j + v.length) 0 * b + u.getD (j + v.length - 1) 0).tdiv (v.getD (v.length - 1) 0)).toNat
    ((u.getD (j + v.length) 0 * b + u.getD (j + v.length - 1) 0).tdiv (v.getD (v.length - 1) 0)) ((u.getD (j + v.length) 0 * b + u.getD (j + v.length - 1) 0).tmod (v.getD (v.length - 1) 0))
structure EsS where
  q : Int
  r : Int
def iest_an (u v : List Int) (j : Int) : Ann :=
  .two .auto (.two .auto (.two .auto (.two .auto (.two (.one (.loop EsS (fun σ z => [(0, σ.tm 0), (1, σ.tm 1), (2, σ.tm 2), (7, σ.tm 7), (9, .i z.q), (10, .i z.r)]) (fun σ z => []) 0 (fun σ z => 0 ≤ z.q ∧ z.q ≤ 2000000000 ∧ 0 ≤ z.r ∧ z.r < 1000000000 ∧ estR 1000000000 (u.getD (j.toNat + v.length - 2) 0) (v.getD (v.length - 1) 0) (v.getD (v.length - 2) 0) z.q.toNat z.q z.r = estF 1000000000 u v j.toNat) (fun σ z => z.q.toNat) .auto)) .auto))))
def iest_t : List AV → Option (List Cond × AV)
  | [x_u, x_v, .v (.int .i64 j)] => some ([.b (slOk Int x_u), .b (slOk Int x_v), .p (InL 1000000000 (intsOf x_u)), .p (InL 1000000000 (intsOf x_v)), .p (2 ≤ (intsOf x_v).length), .p ((intsOf x_v).length ≤ 1000000000), .p (0 ≤ j ∧ j + (intsOf x_v).length < (intsOf x_u).length), .p (0 < (intsOf x_v).getD ((intsOf x_v).length - 1) 0), .p ((intsOf x_u).getD (j.toNat + (intsOf x_v).length) 0 ≤ (intsOf x_v).getD ((intsOf x_v).length - 1) 0)], .i (estF 1000000000 (intsOf x_u) (intsOf x_v) j.toNat))
  | _ => none
theorem iest_vc (u : List Int) (v : List Int) (j : Int) (hu : InL 1000000000 u) (hv : InL 1000000000 v) (hn : 2 ≤ v.length) (hl : v.length ≤ 1000000000) (hj : 0 ≤ j ∧ j + v.length < u.length) (h1 : 0 < v.getD (v.length - 1) 0) (hc : u.getD (j.toNat + v.length) 0 ≤ v.getD (v.length - 1) 0) :
 let q2 := (inK .i64 (j + (↑(List.length v) : Int))); let q1 := (DB.db q2); let q3 := (Int.toNat (j + (↑(List.length v) : Int))); let q4 := (j + (↑(List.length v) : Int) - (1 : Int)); let q5 := (List.getD u q3 Enc.dflt * (1000000000 : Int) + List.getD u (Int.toNat q4) Enc.dflt); let q6 := (DB.db (inK .i64 ((↑(List.length v) : Int) - (1 : Int)))); let q7 := (DB.db ((0 : Int) ≤ (↑(List.length v) : Int) - (1 : Int) ∧ (↑(List.length v) : Int) - (1 : Int) < (↑(List.length v) : Int))); let q9 := (Int.toNat ((↑(List.length v) : Int) - (1 : Int))); let q8 := (DB.db (List.getD v q9 Enc.dflt ≠ (0 :
 Int))); let q10 := (List.getD v q9 Enc.dflt); let q11 := (List.getD u (Int.toNat j + List.length v - 2) (0 : Int)); let q12 := (List.getD v (List.length v - 1) (0 : Int)); let q13 := (List.getD v (List.length v - 2) (0 : Int)); let q14 := (AV.xl false 1 (List.length u) fun i j => AV.v (Value.int .i64 (List.getD u i Enc.dflt))); let q15 := (AV.xl false 1 (List.length v) fun i j => AV.v (Value.int .i64 (List.getD v i Enc.dflt))); let q16 := (IntKind.i64 = .i64 ∧ (↑(List.length v) : Int) = (↑(List.length v) : Int)); let q21 := (j + (↑(List.length v) : Int) - (2 : Int)); bndL [AV.xl false 1
 (List.length u) fun i j => AV.v (Value.int .i64 (List.getD u i Enc.dflt)), AV.xl false 1 (List.length v) fun i j => AV.v (Value.int .i64 (List.getD v i Enc.dflt)), AV.v (Value.int .i64 j)] → bsplit q1 (bsplit (DB.db ((0 : Int) ≤ j + (↑(List.length v) : Int) ∧ j + (↑(List.length v) : Int) < (↑(List.length u) : Int))) (bsplit (DB.db (inK .i64 (List.getD u q3 Enc.dflt * (1000000000 : Int)))) (bsplit q1 (bsplit (DB.db (inK .i64 q4)) (bsplit (DB.db ((0 : Int) ≤ j + (↑(List.length v) : Int) - (1 : Int) ∧ j + (↑(List.length v) : Int) - (1 : Int) < (↑(List.length u) : Int))) (bsplit (DB.db (inK .i64
 q5)) (bsplit q6 (bsplit q7 (bsplit q8 (bsplit (DB.db (inK .i64 (Int.tdiv q5 q10))) (bsplit q6 (bsplit q7 (bsplit q8 ((∃ (z : EsS), (((0 : Int) ≤ EsS.q z ∧ EsS.q z ≤ (2000000000 : Int) ∧ (0 : Int) ≤ EsS.r z ∧ EsS.r z < (1000000000 : Int) ∧ estR (1000000000 : Int) q11 q12 q13 (Int.toNat (EsS.q z)) (EsS.q z) (EsS.r z) = estF (1000000000 : Int) u v (Int.toNat j)) ∧ avM q14 q14 ∧ avM q15 q15 ∧ (IntKind.i64 = .i64 ∧ j = j) ∧ q16 ∧ (IntKind.i64 = .i64 ∧ Int.tdiv q5 q10 = EsS.q z) ∧ IntKind.i64 = .i64 ∧ Int.tmod q5 q10 = EsS.r z) ∧ True) ∧ ∀ (z : EsS), let q17 := (!bsel false (leB (1000000000 : Int)
 (EsS.q z)) || bsel false (leB (1000000000 : Int) (EsS.q z))); let q19 := (bsel false (leB (1000000000 : Int) (EsS.q z)) && bsel true (ltB (EsS.r z) (1000000000 : Int))); let q18 := (!q19 || bsel false (leB (1000000000 : Int) (EsS.q z)) && bsel true (ltB (EsS.r z) (1000000000 : Int))); let q20 := (EsS.q z * List.getD v (Int.toNat ((↑(List.length v) : Int) - (2 : Int))) Enc.dflt); let q22 := (EsS.r z * (1000000000 : Int) + List.getD u (Int.toNat q21) Enc.dflt); let q23 := (EsS.r z + List.getD v q9 Enc.dflt); (0 : Int) ≤ EsS.q z ∧ EsS.q z ≤ (2000000000 : Int) ∧ (0 : Int) ≤ EsS.r z ∧ EsS.r z <
 (1000000000 : Int) ∧ estR (1000000000 : Int) q11 q12 q13 (Int.toNat (EsS.q z)) (EsS.q z) (EsS.r z) = estF (1000000000 : Int) u v (Int.toNat j) → bsplit q17 (bsplit q17 (bsplit q18 (bsplit (!q19 || DB.db (inK .i64 ((↑(List.length v) : Int) - (2 : Int)))) (bsplit q18 (bsplit q18 (bsplit (!q19 || DB.db ((0 : Int) ≤ (↑(List.length v) : Int) - (2 : Int) ∧ (↑(List.length v) : Int) - (2 : Int) < (↑(List.length v) : Int))) (bsplit q18 (bsplit q18 (bsplit q18 (bsplit (!q19 || DB.db (inK .i64 q20)) (bsplit q18 (bsplit (!q19 || DB.db (inK .i64 (EsS.r z * (1000000000 : Int)))) (bsplit q18 (bsplit q18
 (bsplit (!q19 || DB.db q2) (bsplit q18 (bsplit (!q19 || DB.db (inK .i64 q21)) (bsplit q18 (bsplit q18 (bsplit (!q19 || DB.db ((0 : Int) ≤ j + (↑(List.length v) : Int) - (2 : Int) ∧ j + (↑(List.length v) : Int) - (2 : Int) < (↑(List.length u) : Int))) (bsplit q18 (bsplit q18 (bsplit q18 (bsplit (!q19 || DB.db (inK .i64 q22)) (bsplit q18 (bsplit q18 (bsplit q17 (bsplit (!bsel false (leB (1000000000 : Int) (EsS.q z)) || (!ltB (EsS.r z) (1000000000 : Int) || bsel false (leB (1000000000 : Int) (EsS.q z)) && bsel true (ltB (EsS.r z) (1000000000 : Int)))) (bsplit (!!leB (1000000000 : Int) (EsS.q z) ||
 bsel false (leB (1000000000 : Int) (EsS.q z))) (bsplit (bif leB (1000000000 : Int) (EsS.q z) then true else bif ltB (EsS.r z) (1000000000 : Int) then ltB q22 q20 else false) (bsplit (DB.db (inK .i64 (EsS.q z - (1 : Int)))) (bsplit q6 (bsplit q7 (bsplit (DB.db (inK .i64 q23)) (bsplit (leB (1000000000 : Int) q23) (IntKind.i64 = .i64 ∧ EsS.q z - (1 : Int) = estF (1000000000 : Int) u v (Int.toNat j)) (∃ (z' : EsS), ((((0 : Int) ≤ EsS.q z' ∧ EsS.q z' ≤ (2000000000 : Int) ∧ (0 : Int) ≤ EsS.r z' ∧ EsS.r z' < (1000000000 : Int) ∧ estR (1000000000 : Int) q11 q12 q13 (Int.toNat (EsS.q z')) (EsS.q z')
 (EsS.r z') = estF (1000000000 : Int) u v (Int.toNat j)) ∧ Int.toNat (EsS.q z') < Int.toNat (EsS.q z)) ∧ avM q14 q14 ∧ avM q15 q15 ∧ (IntKind.i64 = .i64 ∧ j = j) ∧ q16 ∧ (IntKind.i64 = .i64 ∧ EsS.q z - (1 : Int) = EsS.q z') ∧ IntKind.i64 = .i64 ∧ EsS.r z + List.getD v q9 Enc.dflt = EsS.r z') ∧ True)) False) False) False) False) (IntKind.i64 = .i64 ∧ EsS.q z = estF (1000000000 : Int) u v (Int.toNat j))) False) False) False) False) False) False) False) False) False) False) False) False) False) False) False) False) False) False) False) False) False) False) False) False) False) False) False) False)
 False) False) False) False) False) False) False) False) False) False) False) False) False) False) False) False := by
  dsimp only
  intro hb
  have e0 : (Enc.dflt : Int) = 0 := rfl
  simp only [↓vc_db, ↓vc_gdb, row_one]
  simp only [sS, dS, e0]
  have hu1 : u.length ≤ 9223372036854775807 := hb.1.1
  have en : ((v.length : Int) - 1).toNat = v.length - 1 := by omega
  have en2 : ((v.length : Int) - 2).toNat = v.length - 2 := by omega
  have ej : (j + (v.length : Int)).toNat = j.toNat + v.length := by omega
  have ej1 : (j + (v.length : Int) - 1).toNat = j.toNat + v.length - 1 := by omega
  have ej2 : (j + (v.length : Int) - 2).toNat = j.toNat + v.length - 2 := by omega
  rw [en, en2, ej, ej1, ej2]
  have hF : estF 1000000000 u v j.toNat = estR 1000000000 (u.getD (j.toNat + v.length - 2) 0) (v.getD (v.length - 1) 0) (v.getD (v.length - 2) 0) ((u.getD (j.toNat + v.length) 0 * 1000000000 + u.getD (j.toNat + v.length - 1) 0).tdiv (v.getD (v.length - 1) 0)).toNat
    ((u.getD (j.toNat + v.length) 0 * 1000000000 + u.getD (j.toNat + v.length - 1) 0).tdiv (v.getD (v.length - 1) 0)) ((u.getD (j.toNat + v.length) 0 * 1000000000 + u.getD (j.toNat + v.length - 1) 0).tmod (v.getD (v.length - 1) 0)) := rfl
  rw [hF]
  have u0 := hu.get (by omega) (j.toNat + v.length)
  have u1 := hu.get (by omega) (j.toNat + v.length - 1)
  have u2 := hu.get (by omega) (j.toNat + v.length - 2)
  have w1 := hv.get (by omega) (v.length - 1)
  have w2 := hv.get (by omega) (v.length - 2)
  clear hF
  generalize u.getD (j.toNat + v.length) 0 = a0 at *
  generalize u.getD (j.toNat + v.length - 1) 0 = a1 at *
  generalize u.getD (j.toNat + v.length - 2) 0 = a2 at *
  generalize v.getD (v.length - 1) 0 = b1 at *
  generalize v.getD (v.length - 2) 0 = b2 at *
  obtain ⟨e, m0, m1, q0⟩ := tdm (n := a0 * 1000000000 + a1) (b := b1) (by omega) h1
  have qle : (a0 * 1000000000 + a1).tdiv b1 ≤ 2000000000 := by
    refine Decidable.byContradiction fun hn => ?_
    have t1 : b1 * 2000000001 ≤ b1 * (a0 * 1000000000 + a1).tdiv b1 := Int.mul_le_mul_of_nonneg_left (by omega) (by omega)
    omega
  generalize (a0 * 1000000000 + a1).tdiv b1 = q at *
  generalize (a0 * 1000000000 + a1).tmod b1 = r at *
  obtain ⟨E, hE⟩ : ∃ E, estR 1000000000 a2 b1 b2 q.toNat q r = E := ⟨_, rfl⟩
  rw [hE]
  refine ⟨⟨by omega, by omega⟩, ⟨by omega, by omega⟩, ⟨by omega, by omega⟩, ⟨by omega, by omega⟩, ⟨by omega, by omega⟩, ⟨by omega, by omega⟩, ⟨by omega, by omega⟩, ⟨by omega, by omega⟩, ⟨by omega, by omega⟩, by omega, ⟨by omega, by omega⟩, ⟨by omega, by omega⟩, ⟨by omega, by omega⟩, by omega, ⟨⟨q, r⟩, ⟨q0, qle, m0, by simp only; omega, hE⟩, rfl, rfl⟩, fun ⟨Q, R⟩ ⟨z1, z2, z3, z4, z5⟩ => ?_⟩
  simp only at z1 z2 z3 z4 z5 ⊢
  have p0 : 0 ≤ Q * b2 := Int.mul_nonneg z1 w2.1
  have p1 : Q * b2 ≤ Q * 1000000000 := Int.mul_le_mul_of_nonneg_left (by omega) z1
  refine ⟨fun _ => ⟨by omega, by omega⟩, fun _ => ⟨by omega, by omega⟩, fun _ => ⟨by omega, by omega⟩, fun _ => ⟨by omega, by omega⟩, fun _ => ⟨by omega, by omega⟩, fun _ => ⟨by omega, by omega⟩, fun _ => ⟨by omega, by omega⟩, fun _ => ⟨by omega, by omega⟩, ?_⟩
  refine bsp_t (by cases leB 1000000000 Q <;> cases ltB R 1000000000 <;> rfl) ?_
  refine bsplit_iff.2 ⟨fun c => ?_, fun c => ?_⟩
  · have hQ : 0 < Q := by
      rw [Bool.or_eq_true, leB_iff, Bool.and_eq_true, ltB_iff, ltB_iff] at c
      rcases c with c | c
      · omega
      · refine Decidable.byContradiction fun hn => ?_
        have : Q = 0 := by omega
        rw [this, Int.zero_mul] at c
        omega
    obtain ⟨n, hn⟩ : ∃ n : Nat, Q.toNat = n + 1 := ⟨Q.toNat - 1, by omega⟩
    rw [hn] at z5 ⊢
    unfold estR at z5
    rw [c, cond_true] at z5
    have hn2 : (Q - 1).toNat = n := by omega
    refine ⟨⟨by omega, by omega⟩, ⟨by omega, by omega⟩, ⟨by omega, by omega⟩, ⟨by omega, by omega⟩, fun h => ?_, fun h => ⟨⟨Q - 1, R + b1⟩, ⟨⟨by simp only; omega, by simp only; omega, by simp only; omega, h, ?_⟩, by simp only; omega⟩, rfl, rfl⟩⟩
    · rw [(leB_iff _ _).2 h] at z5; exact z5
    · rw [show leB 1000000000 (R + b1) = false from Bool.eq_false_iff.2 fun e => by have := (leB_iff _ _).1 e; omega] at z5
      rw [← z5]
      simp only [hn2, cond_false]
  · rw [← z5]
    cases hQ : Q.toNat with
    | zero => rfl
    | succ n => unfold estR; rw [c]; rfl
theorem iest_C (u : List Int) (v : List Int) (j : Int) (hu : InL 1000000000 u) (hv : InL 1000000000 v) (hn : 2 ≤ v.length) (hl : v.length ≤ 1000000000) (hj : 0 ≤ j ∧ j + v.length < u.length) (h1 : 0 < v.getD (v.length - 1) 0) (hc : u.getD (j.toNat + v.length) 0 ≤ v.getD (v.length - 1) 0) : PureCall Tryz.prog [] 253 [slE u, slE v, .i j] (.i (estF 1000000000 u v j.toNat)) :=
  pure_of_vc (T := T0) (an := iest_an u v j) mixed tb0_sound (Eq.mp (by kernel_rfl) (iest_vc u v j hu hv hn hl hj h1 hc))
theorem iest_T : PureT Tryz.prog [] 253 iest_t := by
  intro xs ps r h hp
  unfold iest_t at h
  split at h
  · skip
    rename_i x_u x_v j
    cases h
    obtain ⟨q0, q1, q2, q3, q4, q5, q6, q7, q8, -⟩ := allC hp
    exact weaken (ys := [slE (intsOf x_u), slE (intsOf x_v), .i j]) ⟨slE_sound q0, slE_sound q1, avM_refl _, trivial⟩ (iest_C (intsOf x_u) (intsOf x_v) j q2 q3 q4 q5 q6 q7 q8)
  · cases h
noncomputable def Ttf : Tb := (T0.plus 237 ilimb_t).body Tryz.prog [(212, itrimO_an)]
theorem Ttf_sound : TbSound Tryz.prog Ttf := TbSound.body mixed (TbSound.plus tb0_sound ilimb_T) _
def prL (x y : List Int) : List Int := limbs 1000000000 (valL 1000000000 x * valL 1000000000 y).toNat
theorem itimF_vc (x y : List Int) (hx : InL 1000000000 x) (hy : InL 1000000000 y) (hlx : x.length ≤ 1000000000) (hly : y.length ≤ 1000000000) :
 let q1 := ((↑(List.length x) : Int) + (↑(List.length y) : Int) + (1 : Int)); let q2 := (AV.xl false 1 (List.length y) fun i j => AV.v (Value.int .i64 (List.getD y i Enc.dflt))); let q3 := (nat_lit 0 = 0 ∧ 0 = 0 ∧ Int.toNat q1 = Int.toNat q1); let q4 := (AV.xl false 1 (List.length x) fun i j => AV.v (Value.int .i64 (List.getD x i Enc.dflt))); let q5 := (IntKind.i64 = .i64 ∧ (↑(List.length x) : Int) = (↑(List.length x) : Int)); let q9 := (IntKind.i64 = .i64 ∧ (↑(List.length y) : Int) + (1 : Int) = (↑(List.length y) : Int) + (1 : Int)); let q13 := (intsOf q2); bndL [AV.xl false 1 (List.length x)
 fun i j => AV.v (Value.int .i64 (List.getD x i Enc.dflt)), AV.xl false 1 (List.length y) fun i j => AV.v (Value.int .i64 (List.getD y i Enc.dflt))] → bsplit (DB.db (inK .i64 ((↑(List.length x) : Int) + (↑(List.length y) : Int)))) (bsplit (DB.db (inK .i64 q1)) (bsplit (DB.db ((0 : Int) ≤ (↑(List.length x) : Int) + (↑(List.length y) : Int) + (1 : Int) ∧ (↑(List.length x) : Int) + (↑(List.length y) : Int) + (1 : Int) ≤ (↑(List.length x) : Int) + (↑(List.length y) : Int) + (1 : Int) ∧ (↑8 : Int) * q1 ≤ (140737488355328 : Int))) ((∃ (z : MlZ), ((MulZ (1000000000 : Int) x y (MlZ.i z) (MlZ.out z) ∧
 MlZ.i z ≤ List.length x) ∧ avM q2 q2 ∧ q3 ∧ avM q4 q4 ∧ q5 ∧ IntKind.i64 = .i64 ∧ (0 : Int) = (↑(MlZ.i z) : Int)) ∧ (3 : TypeId) = 3 ∧ 1 = 1 ∧ List.length (MlZ.out z) = Int.toNat q1 ∧ ∀ (i j : Nat), i < Int.toNat q1 → j < 1 → avM (zcell (Value.int .i64 (0 : Int)) j) (AV.v (Value.int .i64 (List.getD (MlZ.out z) i (0 : Int))))) ∧ ∀ (z : MlZ), let q6 := (Int.toNat (AV.int (AV.v (Value.int .i64 (↑(MlZ.i z) : Int))))); let q7 := (IntKind.i64 = .i64 ∧ (↑(MlZ.i z) : Int) = (↑(MlZ.i z) : Int)); let q8 := (IntKind.i64 = .i64 ∧ List.getD x (Int.toNat (↑(MlZ.i z) : Int)) Enc.dflt = List.getD x (Int.toNat
 (↑(MlZ.i z) : Int)) Enc.dflt); let q16 := (obInts (OB.arr (3 : TypeId) 1 (List.length (MlZ.out z)) fun (i x : Nat) => AV.v (Value.int .i64 (List.getD (MlZ.out z) i (0 : Int))))); MulZ (1000000000 : Int) x y (MlZ.i z) (MlZ.out z) ∧ MlZ.i z ≤ List.length x → bsplit (ltB (↑(MlZ.i z) : Int) (↑(List.length x) : Int)) (bsplit (DB.db ((0 : Int) ≤ (↑(MlZ.i z) : Int) ∧ (↑(MlZ.i z) : Int) < (↑(List.length x) : Int))) (bsplit (DB.db (inK .i64 ((↑(List.length y) : Int) + (1 : Int)))) ((∃ (z_1 : MlK), ((MulK (1000000000 : Int) x y q6 (MlK.k z_1) (MlK.out z_1) (MlK.c z_1) ∧ MlK.k z_1 ≤ List.length y + 1 ∧
 (MlK.k z_1 = List.length y + 1 → MlK.c z_1 = (0 : Int))) ∧ avM q2 q2 ∧ q3 ∧ q7 ∧ q8 ∧ avM q4 q4 ∧ q5 ∧ q7 ∧ q9 ∧ (IntKind.i64 = .i64 ∧ (0 : Int) = MlK.c z_1) ∧ IntKind.i64 = .i64 ∧ (0 : Int) = (↑(MlK.k z_1) : Int)) ∧ 3 = 3 ∧ 1 = 1 ∧ List.length (MlK.out z_1) = List.length (MlZ.out z) ∧ ∀ (i j : Nat), i < List.length (MlZ.out z) → j < 1 → IntKind.i64 = .i64 ∧ List.getD (MlZ.out z) i (0 : Int) = List.getD (MlK.out z_1) i (0 : Int)) ∧ ∀ (z_1 : MlK), let q11 := ((↑(MlZ.i z) : Int) + (↑(MlK.k z_1) : Int)); let q10 := (DB.db (inK .i64 q11)); let q12 := (DB.db ((0 : Int) ≤ (↑(MlZ.i z) : Int) +
 (↑(MlK.k z_1) : Int) ∧ (↑(MlZ.i z) : Int) + (↑(MlK.k z_1) : Int) < (↑(Int.toNat q1) : Int))); let q14 := (0 + Int.toNat q11); let q15 := (List.getD (MlK.out z_1) q14 (0 : Int) + List.getD x (Int.toNat (↑(MlZ.i z) : Int)) Enc.dflt * List.getD q13 (Int.toNat (↑(MlK.k z_1) : Int)) (0 : Int) + MlK.c z_1); MulK (1000000000 : Int) x y q6 (MlK.k z_1) (MlK.out z_1) (MlK.c z_1) ∧ MlK.k z_1 ≤ List.length y + 1 ∧ (MlK.k z_1 = List.length y + 1 → MlK.c z_1 = (0 : Int)) → bsplit (ltB (↑(MlK.k z_1) : Int) ((↑(List.length y) : Int) + (1 : Int))) (bsplit q10 (bsplit q12 (bsplit (slOk Int q2) ((0 : Int) ≤
 (↑(MlK.k z_1) : Int) ∧ bsplit (DB.db (inK .i64 (List.getD x (Int.toNat (↑(MlZ.i z) : Int)) Enc.dflt * List.getD q13 (Int.toNat (↑(MlK.k z_1) : Int)) (0 : Int)))) (bsplit (DB.db (inK .i64 (List.getD (MlK.out z_1) q14 (0 : Int) + List.getD x (Int.toNat (↑(MlZ.i z) : Int)) Enc.dflt * List.getD q13 (Int.toNat (↑(MlK.k z_1) : Int)) (0 : Int)))) (bsplit (DB.db (inK .i64 q15)) (bsplit q10 (bsplit (DB.db (inK .i64 (Int.tdiv q15 (1000000000 : Int)))) (bsplit q12 (bsplit (DB.db (inK .i64 ((↑(MlK.k z_1) : Int) + (1 : Int)))) (∃ (z' : MlK), (((MulK (1000000000 : Int) x y q6 (MlK.k z') (MlK.out z') (MlK.c
 z') ∧ MlK.k z' ≤ List.length y + 1 ∧ (MlK.k z' = List.length y + 1 → MlK.c z' = (0 : Int))) ∧ List.length y + 1 - MlK.k z' < List.length y + 1 - MlK.k z_1) ∧ avM q2 q2 ∧ q3 ∧ q7 ∧ q8 ∧ avM q4 q4 ∧ q5 ∧ q7 ∧ q9 ∧ (IntKind.i64 = .i64 ∧ Int.tdiv q15 (1000000000 : Int) = MlK.c z') ∧ IntKind.i64 = .i64 ∧ (↑(MlK.k z_1) : Int) + (1 : Int) = (↑(MlK.k z') : Int)) ∧ 3 = 3 ∧ 1 = 1 ∧ List.length (MlK.out z') = List.length (MlK.out z_1) ∧ ∀ (i j : Nat), i < List.length (MlK.out z_1) → j < 1 → avM (if i = 0 + Int.toNat q11 ∧ 0 ≤ j ∧ j < 1 then AV.v (Value.int .i64 (Int.tmod q15 (1000000000 : Int))) else AV.v
 (Value.int .i64 (List.getD (MlK.out z_1) i (0 : Int)))) (AV.v (Value.int .i64 (List.getD (MlK.out z') i (0 : Int))))) False) False) False) False) False) False) False) False) False) False) (bsplit (DB.db (inK .i64 ((↑(MlZ.i z) : Int) + (1 : Int)))) (∃ (z' : MlZ), (((MulZ (1000000000 : Int) x y (MlZ.i z') (MlZ.out z') ∧ MlZ.i z' ≤ List.length x) ∧ List.length x - MlZ.i z' < List.length x - MlZ.i z) ∧ avM q2 q2 ∧ q3 ∧ avM q4 q4 ∧ q5 ∧ IntKind.i64 = .i64 ∧ (↑(MlZ.i z) : Int) + (1 : Int) = (↑(MlZ.i z') : Int)) ∧ 3 = 3 ∧ 1 = 1 ∧ List.length (MlZ.out z') = List.length (MlK.out z_1) ∧ ∀ (i j : Nat), i
 < List.length (MlK.out z_1) → j < 1 → IntKind.i64 = .i64 ∧ List.getD (MlK.out z_1) i (0 : Int) = List.getD (MlZ.out z') i (0 : Int)) False)) False) False) ((∃ (z_1 : Nat), ((z_1 ≤ List.length q16 ∧ ∀ (i : Nat), z_1 ≤ i → List.getD (obInts (OB.arr (3 : TypeId) 1 (List.length (MlZ.out z)) fun (i x : Nat) => AV.v (Value.int .i64 (List.getD (MlZ.out z) i (0 : Int))))) i (0 : Int) = (0 : Int)) ∧ nat_lit 0 = 0 ∧ 0 = 0 ∧ z_1 = Int.toNat q1) ∧ 3 = 3 ∧ 1 = 1 ∧ List.length (MlZ.out z) = List.length (MlZ.out z) ∧ ∀ (i j : Nat), i < List.length (MlZ.out z) → j < 1 → IntKind.i64 = .i64 ∧ List.getD (MlZ.out
 z) i (0 : Int) = List.getD (MlZ.out z) i (0 : Int)) ∧ ∀ (z_1 : Nat), let q17 := (!bsel true (ltB (0 : Int) (↑z_1 : Int)) || bsel true (ltB (0 : Int) (↑z_1 : Int))); (z_1 ≤ List.length q16 ∧ ∀ (i : Nat), z_1 ≤ i → List.getD (obInts (OB.arr (3 : TypeId) 1 (List.length (MlZ.out z)) fun (i x : Nat) => AV.v (Value.int .i64 (List.getD (MlZ.out z) i (0 : Int))))) i (0 : Int) = (0 : Int)) → bsplit q17 (bsplit q17 (bsplit (!bsel true (ltB (0 : Int) (↑z_1 : Int)) || DB.db (inK .i64 ((↑z_1 : Int) - (1 : Int)))) (bsplit q17 (bsplit q17 (bsplit (!bsel true (ltB (0 : Int) (↑z_1 : Int)) || DB.db ((0 : Int) ≤
 (↑z_1 : Int) - (1 : Int) ∧ (↑z_1 : Int) - (1 : Int) < (↑z_1 : Int))) (bsplit q17 (bsplit q17 (bsplit (!ltB (0 : Int) (↑z_1 : Int) || bsel true (ltB (0 : Int) (↑z_1 : Int))) (bsplit (bif ltB (0 : Int) (↑z_1 : Int) then List.getD (MlZ.out z) (0 + Int.toNat ((↑z_1 : Int) - (1 : Int))) (0 : Int) == (0 : Int) else false) (bsplit (DB.db (inK .i64 ((↑z_1 : Int) - (1 : Int)))) (bsplit (DB.db ((0 : Int) ≤ (↑z_1 : Int) - (1 : Int) ∧ (↑z_1 : Int) - (1 : Int) ≤ (↑z_1 : Int))) (∃ (z' : Nat), (((z' ≤ List.length q16 ∧ ∀ (i : Nat), z' ≤ i → List.getD (obInts (OB.arr (3 : TypeId) 1 (List.length (MlZ.out z))
 fun (i x : Nat) => AV.v (Value.int .i64 (List.getD (MlZ.out z) i (0 : Int))))) i (0 : Int) = (0 : Int)) ∧ z' < z_1) ∧ nat_lit 0 = 0 ∧ 0 = 0 ∧ z' = Int.toNat ((↑z_1 : Int) - (1 : Int))) ∧ 3 = 3 ∧ 1 = 1 ∧ List.length (MlZ.out z) = List.length (MlZ.out z) ∧ ∀ (i j : Nat), i < List.length (MlZ.out z) → j < 1 → IntKind.i64 = .i64 ∧ List.getD (MlZ.out z) i (0 : Int) = List.getD (MlZ.out z) i (0 : Int)) False) False) (3 = 3 ∧ 1 = 1 ∧ z_1 = List.length (prL x y) ∧ ∀ (i j : Nat), i < List.length (prL x y) → j < 1 → IntKind.i64 = .i64 ∧ List.getD (MlZ.out z) i (0 : Int) = List.getD (prL x y) i (0 :
 Int))) False) False) False) False) False) False) False) False) False)) False) False) False := by
  dsimp only
  intro hb
  have e0 : (Enc.dflt : Int) = 0 := rfl
  simp only [↓vc_db, ↓vc_gdb, row_one]
  simp only [sS, dS, e0, obI, implies_true, and_true]
  have en : ((x.length : Int) + (y.length : Int) + 1).toNat = x.length + y.length + 1 := by omega
  rw [en]
  refine ⟨⟨by omega, by omega⟩, ⟨by omega, by omega⟩, ⟨by omega, Int.le_refl _, by omega⟩, ⟨⟨0, List.replicate (x.length + y.length + 1) 0⟩, ⟨⟨.zero_ (by omega) _ _, Nat.zero_le _⟩, rfl⟩, by simp, fun i j _ hj => zeroI _ i j hj⟩, fun z ⟨z1, z2⟩ => ⟨fun hz => ⟨⟨by omega, hz⟩, ⟨by omega, by omega⟩, ⟨⟨0, 0, z.out⟩, ⟨⟨z1.start (by omega), Nat.zero_le _, fun h => rfl⟩, rfl, rfl⟩, rfl, fun _ _ _ _ => rfl⟩, fun w ⟨w1, w2, w3⟩ => ⟨fun hk0 => ?_, fun hk0 => ?_⟩⟩, fun hz => ?_⟩⟩
  · have hz' : z.i < x.length := by omega
    have w4 := w1.len
    have hk : w.k ≤ y.length := by omega
    have ek : ((z.i : Int) + (w.k : Int)).toNat = z.i + w.k := by omega
    rw [ek]
    obtain ⟨⟨n0, n1⟩, hs⟩ := w1.step (by omega) hx hy hz' hk
    have g1 := hx.get (by omega) z.i
    have g2 := hy.get (by omega) w.k
    have g3 := w1.in_.get (by omega) (z.i + w.k)
    have c0 := w1.c0
    have c1 := w1.c1
    have p0 : 0 ≤ x.getD z.i 0 * y.getD w.k 0 := Int.mul_nonneg g1.1 g2.1
    have d0 := hs.c0
    have d1 := hs.c1
    refine ⟨⟨by omega, by omega⟩, ⟨by omega, by omega⟩, by omega, ⟨by omega, by omega⟩, ⟨by omega, by omega⟩, ⟨by omega, by omega⟩, ⟨by omega, by omega⟩, ⟨by omega, by omega⟩, ⟨by omega, by omega⟩, ⟨by omega, by omega⟩, ⟨w.k + 1, _, _⟩, ⟨⟨⟨hs, by simp only; omega, fun h => ?_⟩, by simp only; omega⟩, rfl, rfl⟩, by simp, fun i j _ => setI _ _ _ (by omega) i j⟩
    have hk' : w.k = y.length := by simp only at h; omega
    have := (hk' ▸ w1 : MulK 1000000000 x y z.i y.length w.out w.c).last (by omega)
    rw [← hk'] at this
    exact this
  · have c0 := w1.c0
    have hc := w3 (by omega)
    exact ⟨⟨by omega, by omega⟩, ⟨z.i + 1, w.out⟩, ⟨⟨⟨w1.fin (by omega) w2 hc, by simp only; omega⟩, by simp only; omega⟩, rfl⟩, rfl, fun _ _ _ _ => rfl⟩
  · have hz' : z.i = x.length := by omega
    have zl := z1.len
    have he := (hz' ▸ z1 : MulZ 1000000000 x y x.length z.out).end_ (b := 1000000000) (by omega)
    refine ⟨⟨x.length + y.length + 1, ⟨by omega, fun i hi => getD_outI (by omega)⟩, rfl⟩, fun k ⟨k1, k2⟩ => ⟨fun h => ?_, fun h => ?_, bsplit_iff.2 ⟨fun c => ?_, fun c => ?_⟩⟩⟩
    · have := (ltB_iff _ _).1 h; exact ⟨by omega, by omega⟩
    · have := (ltB_iff _ _).1 h; exact ⟨by omega, by omega⟩
    · obtain ⟨c1, c2⟩ := trim_step k2 c
      exact ⟨⟨by omega, by omega⟩, ⟨by omega, by omega⟩, k - 1, ⟨⟨by omega, c2⟩, by omega⟩, by omega⟩
    · have ht := trim_exit k1 k2 c
      have hp : z.out.take k = prL x y := ht.symm.trans he
      have hkl : k = (prL x y).length := by rw [← hp, List.length_take]; omega
      exact ⟨hkl, fun i j hi _ => by rw [← hp, getD_takeN (by omega)]⟩
theorem itimF_C {x y : List Int} (hx : InL 1000000000 x) (hy : InL 1000000000 y) (hlx : x.length ≤ 1000000000) (hly : y.length ≤ 1000000000) : FreshCall Tryz.prog [] 203 [slE x, slE y] 3 1 (prL x y).length (fun i _ => .i ((prL x y).getD i 0)) :=
  fresh_of_vc mixed Ttf_sound (Eq.mp (by kernel_rfl) (itimF_vc x y hx hy hlx hly) : vcFresh Tryz.prog Ttf 203 (itimes_an x y) [slE x, slE y] 3 1 (prL x y).length (fun i _ => .i ((prL x y).getD i 0)))
def itimF_t : List AV → Option (List Cond × TypeId × Nat × Nat × (Nat → Nat → AV))
  | [x, y] => some ([.b (slOk Int x), .b (slOk Int y), .p (InL 1000000000 (intsOf x)), .p (InL 1000000000 (intsOf y)), .p ((intsOf x).length ≤ 1000000000), .p ((intsOf y).length ≤ 1000000000)], 3, 1, (prL (intsOf x) (intsOf y)).length, fun i _ => .i ((prL (intsOf x) (intsOf y)).getD i 0))
  | _ => none
theorem itimF_T : FreshT Tryz.prog [] 203 itimF_t := by
  intro xs ps ty sz len els h hp
  unfold itimF_t at h
  split at h
  · rename_i x y
    cases h
    have q0 : slOk Int x = true := hp (.b (slOk Int x)) (by simp)
    have q1 : slOk Int y = true := hp (.b (slOk Int y)) (by simp)
    have q2 : InL 1000000000 (intsOf x) := hp (.p (InL 1000000000 (intsOf x))) (by simp)
    have q3 : InL 1000000000 (intsOf y) := hp (.p (InL 1000000000 (intsOf y))) (by simp)
    have q4 : (intsOf x).length ≤ 1000000000 := hp (.p ((intsOf x).length ≤ 1000000000)) (by simp)
    have q5 : (intsOf y).length ≤ 1000000000 := hp (.p ((intsOf y).length ≤ 1000000000)) (by simp)
    exact weakenF (ys := [slE (intsOf x), slE (intsOf y)]) ⟨slE_sound q0, slE_sound q1, trivial⟩ (itimF_C q2 q3 q4 q5)
  · cases h
end Go.Te
