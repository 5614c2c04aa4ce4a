/- nest.Check. -/
import Derived.Test.YtojonobehnbeiaaGreatDoorTzCz
import Derived.Test.YtojonobehnbeiaaGreatDoorTzCa
set_option linter.unusedSimpArgs false
namespace Go.Tz
open Go Go.Sx Go.Proofs
set_option maxRecDepth 100000
set_option maxHeartbeats 4000000
theorem nodup_sub {α : Type} [DecidableEq α] : ∀ {A B : List α}, A.Nodup → (∀ x ∈ A, x ∈ B) → A.length ≤ B.length
  | [], _, _, _ => Nat.zero_le _
  | a :: A, B, hA, h => by
    obtain ⟨h1, h2⟩ := List.nodup_cons.1 hA
    have ha := h a List.mem_cons_self
    have := nodup_sub (B := B.erase a) h2 fun x hx => (List.mem_erase_of_ne fun (e : x = a) => h1 (e ▸ hx)).2 (h x (List.mem_cons_of_mem _ hx))
    rw [List.length_erase_of_mem ha] at this
    have : 0 < B.length := List.length_pos_of_mem ha
    simp only [List.length_cons]
    omega
theorem memI_iff {s : List Int} {n : Int} : memI s n = true ↔ n ∈ s := by
  unfold memI
  rw [List.any_eq_true]
  exact ⟨fun ⟨x, hx, e⟩ => by rw [beq_iff_eq] at e; rw [← e]; exact hx, fun h => ⟨n, h, beq_iff_eq.2 rfl⟩⟩
theorem memB_memI (s : List Int) {n : Int} (h : 0 ≤ n) : memB s n.toNat = memI s n := by unfold memB memI; rw [Int.toNat_of_nonneg h]
theorem seen_len (l : List Used) : ∀ z, (seenU l z).length = sumP l z
  | 0 => rfl
  | z + 1 => by rw [seenU, List.length_append, seen_len l z, sumP]
theorem asc_nodup {l : List Int} (ha : ascL l = true) : l.Nodup := by
  rw [List.nodup_iff_pairwise_ne, List.pairwise_iff_getElem]
  intro i j hi hj hij
  have := asc_lt ha hij hj
  rw [List.getD_eq_getElem?_getD, List.getElem?_eq_getElem hi, List.getD_eq_getElem?_getD, List.getElem?_eq_getElem hj] at this
  simp only [Option.getD_some] at this
  omega
theorem one_any {all : List Cut} {bs : List Bar} {k : Int} {l : List Used} {i : Nat} (h : oneE all bs k l i = 0) : (usedAt l i).ps.any (memI (seenU l i)) = false := by
  cases hc : (usedAt l i).ps.any (memI (seenU l i)) with
  | false => rfl
  | true => rw [one_seen (one_zero h) hc] at h; cases h
theorem seen_ok {all : List Cut} {bs : List Bar} {k : Int} {l : List Used} : ∀ {z : Nat}, (∀ i, i < z → oneE all bs k l i = 0) → (seenU l z).Nodup ∧ ∀ x ∈ seenU l z, 0 ≤ x ∧ x < all.length
  | 0, _ => ⟨List.nodup_nil, fun x hx => by cases hx⟩
  | z + 1, h => by
    obtain ⟨h1, h2⟩ := seen_ok (z := z) fun i hi => h i (by omega)
    have hz := h z (by omega)
    obtain ⟨_, _, _, k4, k5⟩ := kindE_ok (one_zero hz)
    have ha := one_any hz
    rw [List.any_eq_false] at ha
    refine ⟨List.nodup_append.2 ⟨h1, asc_nodup k5, fun a ha1 b hb1 e => ?_⟩, fun x hx => ?_⟩
    · exact ha b hb1 (memI_iff.2 (e ▸ ha1))
    · rcases List.mem_append.1 hx with hx | hx
      · exact h2 x hx
      · have := List.all_eq_true.1 k4 x hx
        rw [Bool.and_eq_true, leB_iff, ltB_iff] at this
        exact this
theorem cover {P : List Int} {n : Nat} (h1 : P.Nodup) (h2 : ∀ x ∈ P, 0 ≤ x ∧ x < n) : hasBB (listOf n (memB P)) false = Nat.blt P.length n := by
  have hr : ((List.range n).map Int.ofNat).Nodup := by
    rw [List.nodup_iff_pairwise_ne, List.pairwise_map]
    exact List.nodup_range.imp fun h e => h (Int.ofNat.inj e)
  cases hc : Nat.blt P.length n with
  | true =>
    rw [blt_iff] at hc
    refine Decidable.byContradiction fun hne => ?_
    rw [Bool.not_eq_true] at hne
    unfold hasBB at hne
    rw [List.any_eq_false] at hne
    have := nodup_sub hr (B := P) fun x hx => by
      obtain ⟨i, hi, rfl⟩ := List.mem_map.1 hx
      have := hne (memB P i) (List.mem_map.2 ⟨i, hi, rfl⟩)
      have hm : memB P i = true := by cases hm : memB P i with
        | true => rfl
        | false => rw [hm] at this; exact (this rfl).elim
      rw [show memB P i = memI P (Int.ofNat i) from rfl] at hm
      exact memI_iff.1 hm
    simp at this
    omega
  | false =>
    unfold hasBB
    rw [List.any_eq_false]
    intro b hb
    obtain ⟨i, hi, rfl⟩ := List.mem_map.1 hb
    rw [List.mem_range] at hi
    cases hm : memB P i with
    | true => decide
    | false =>
      have hno : Int.ofNat i ∉ P := fun h => by
        have := memI_iff.2 h
        rw [show memI P (Int.ofNat i) = memB P i from rfl, hm] at this
        cases this
      have := nodup_sub (B := ((List.range n).map Int.ofNat).erase (Int.ofNat i)) h1 fun x hx => (List.mem_erase_of_ne fun (e : x = Int.ofNat i) => hno (e ▸ hx)).2 (by
        have := h2 x hx
        exact List.mem_map.2 ⟨x.toNat, List.mem_range.2 (by omega), Int.toNat_of_nonneg this.1⟩)
      rw [List.length_erase_of_mem (List.mem_map.2 ⟨i, List.mem_range.2 hi, rfl⟩)] at this
      simp at this
      have h3 : P.length < n := by omega
      rw [(blt_iff _ _).2 h3] at hc
      cases hc
theorem seen_any {n : Nat} {s ps : List Int} (h : ∀ x ∈ ps, 0 ≤ x ∧ x < n) : ps.any (seenIn (listOf n (memB s))) = ps.any (memI s) := by
  induction ps with
  | nil => rfl
  | cons a ps ih =>
    have ha := h a List.mem_cons_self
    rw [List.any_cons, List.any_cons, ih fun x hx => h x (List.mem_cons_of_mem _ hx)]
    congr 1
    unfold seenIn listOf
    rw [List.getD_eq_getElem?_getD, List.getElem?_map, List.getElem?_range (by omega)]
    exact memB_memI s ha.1
theorem memI_take {s l : List Int} {y : Nat} (i : Nat) (hy : y < l.length) (h0 : 0 ≤ l.getD y 0) : memB (s ++ l.take (y + 1)) i = if i = (l.getD y 0).toNat then true else memB (s ++ l.take y) i := memB_take hy h0 i
def seenBo (n : Nat) (s : List Int) : OB := .arr 4 1 n fun i _ => .b (memB s i)
def usedBo (n : Nat) (l : List Used) : OB := .arr 3 1 n fun i _ => .i (usedN l (i : Int))
def ncheck_an (ps : List Cut) (bs : List Bar) (k : Int) (l : List Used) : Ann :=
  .two .auto (.two .auto (.two .auto (.two .auto (.join Unit (fun σ _ => [(1, σ.tm 1), (2, σ.tm 2), (3, σ.tm 3), (9, σ.tm 9), (11, .np (σ.nb + 2) 0), (12, .ns (σ.nb + 1) 0 bs.length)])
    (fun σ _ => [(σ.nb, seenBo (startL ps bs k).length []), (σ.nb + 1, usedBo bs.length []), (σ.nb + 2, .box 98 1 fun _ => .ns σ.nb 0 (startL ps bs k).length)]) 3 (fun _ _ => True) .auto
  (.two (.two .auto (.one (.loop Nat (fun σ z => [(1, σ.tm 1), (2, σ.tm 2), (9, σ.tm 9), (11, σ.tm 11), (12, σ.tm 12), (39, σ.tm 39), (40, σ.tm 40), (41, .i z)]) (fun σ z => [(0, seenBo (startL ps bs k).length (seenU l z)), (1, usedBo bs.length (l.take z))]) 0 (fun σ z => z ≤ l.length ∧ ∀ i, i < z → oneE (startL ps bs k) bs k l i = 0) (fun σ z => l.length - z) (.two .auto (.two .auto (.two (.one (.two .auto (.two .auto (.two .auto (.two (.two .auto (.one (.loop Nat (fun σ z => [(1, σ.tm 1), (2, σ.tm 2), (9, σ.tm 9), (11, σ.tm 11), (12, σ.tm 12), (14, σ.tm 14), (39, σ.tm 39), (40, σ.tm 40), (41, σ.tm 41), (57, σ.tm 57), (58, σ.tm 58), (59, .i z)]) (fun σ z => [(0, seenBo (startL ps bs k).length (seenU l (AV.int (σ.tm 41)).toNat ++ (usedAt l (AV.int (σ.tm 41)).toNat).ps.take z))]) 0 (fun σ z => z ≤ (usedAt l (AV.int (σ.tm 41)).toNat).ps.length) (fun σ z => (usedAt l (AV.int (σ.tm 41)).toNat).ps.length - z) .auto)))
    (.two .auto (.two .auto (.two .auto (.join Unit (fun σ _ => [(1, σ.tm 1), (2, σ.tm 2), (9, σ.tm 9), (11, σ.tm 11), (12, σ.tm 12), (14, σ.tm 14), (39, σ.tm 39), (40, σ.tm 40), (41, σ.tm 41)])
      (fun σ _ => [(1, usedBo bs.length (l.take ((AV.int (σ.tm 41)).toNat + 1)))]) 0 (fun _ _ => True) .auto .auto))))))))) .auto)))))) .auto)))))
def Tnc : Tb := (((((T0.plus 32 start_t).plus 59 kind_t).plus 45 conS_t).plus 61 lay_t).plus 62 eql_t).plus 63 conBb_t
theorem Tnc_sound : TbSound Tryz.prog Tnc := TbSound.plus (TbSound.plus (TbSound.plus (TbSound.plus (TbSound.plus (TbSound.plus tb0_sound sing_T) kind_T) conS_T) lay_T) eql_T) conBb_T
theorem ncheck_vc (ps : List Cut) (bs : List Bar) (k : Int) (l : List Used) :
 let q2 := (↑(List.length (startL (slD (slX 4 ps)) (slD (slX 6 bs)) k)) : Int); let q1 := (DB.db ((0 : Int) ≤ q2 ∧ q2 ≤ q2 ∧ (↑1 : Int) * q2 ≤ (140737488355328 : Int))); let q5 := (DB.db ((0 : Int) ≤ (bs.length : Int) ∧ (bs.length : Int) ≤ (bs.length : Int) ∧ (↑8 : Int) * (bs.length : Int) ≤ (140737488355328 : Int))); let q8 := (startL (slD (AV.xl false 4 (ps.length) fun i j => Enc.enc (List.getD ps i Enc.dflt) j)) (slD (AV.xl false 6 (bs.length) fun i j => Enc.enc (List.getD bs i Enc.dflt) j)) k); let q7 := (slX 4 q8); let q6 := (∃ (z : Unit), (True ∧ avM (slX 6 bs) (slX 6 bs) ∧ (IntKind.i64 =
 .i64 ∧ k = k) ∧ avM (slX 3 l) (slX 3 l) ∧ avM q7 q7 ∧ (nat_lit 0 + 2 = 2 ∧ 0 = 0) ∧ nat_lit 0 + 1 = 1 ∧ 0 = 0 ∧ bs.length = Int.toNat (bs.length : Int)) ∧ (((4 : TypeId) = 4 ∧ 1 = 1 ∧ List.length (startL ps bs k) = Int.toNat q2 ∧ ∀ (i j : Nat), i < Int.toNat q2 → j < 1 → avM (zcell (Value.bool false) j) (AV.v (Value.bool (memB [] i)))) ∧ (3 : TypeId) = 3 ∧ 1 = 1 ∧ bs.length = Int.toNat (bs.length : Int) ∧ ∀ (i j : Nat), i < Int.toNat (bs.length : Int) → j < 1 → avM (zcell (Value.int .i64 (0 : Int)) j) (AV.v (Value.int .i64 (↑(usedN [] (i : Int)) : Int)))) ∧ (98 : TypeId) = 98 ∧ 1 = 1 ∧ nat_lit
 0 = 0 ∧ 0 = 0 ∧ List.length (startL ps bs k) = Int.toNat q2); let q4 := (bsplit q5 q6 False ∧ bsplit q5 q6 False ∧ bsplit q5 q6 False); let q9 := (bsplit q5 q6 False ∧ bsplit q5 q6 False); let q3 := (q4 ∧ q9 ∧ bsplit q5 q6 False); let q10 := (q9 ∧ bsplit q5 q6 False); let q11 := (bsplit q1 q6 False); let q12 := (nat_lit 0 + 1 = 1 ∧ 0 = 0 ∧ bs.length = bs.length); let q13 := (IntKind.i64 = .i64 ∧ (l.length : Int) = (l.length : Int)); let q14 := (slOk Cut q7); let q16 := (slD q7); let q43 := (IntKind.i64 = .i64 ∧ (22 : Int) = checkE ps bs k l); bndL [slX 4 ps, slX 6 bs, AV.v (Value.int .i64 k),
 slX 3 l] → bsplit (slOk Cut (slX 4 ps)) (bsplit (slOk Bar (slX 6 bs)) (bsplit (startE (slD (slX 4 ps)) (slD (slX 6 bs)) k != (0 : Int)) (IntKind.i64 = .i64 ∧ startE (slD (slX 4 ps)) (slD (slX 6 bs)) k = checkE ps bs k l) (bsplit (ltB (64 : Int) (l.length : Int)) (IntKind.i64 = .i64 ∧ (4 : Int) = checkE ps bs k l) ((bsplit q1 (q3 ∧ q10 ∧ bsplit q5 q6 False) False ∧ (bsplit q1 q3 False ∧ (bsplit q1 q4 False ∧ bsplit q5 (bsplit q1 q6 False ∧ bsplit q1 q6 False) False ∧ bsplit q1 q9 False ∧ bsplit q5 q11 False) ∧ bsplit q1 q10 False ∧ bsplit q1 q9 False ∧ bsplit q5 q11 False) ∧ bsplit q1 (q10 ∧
 bsplit q5 q6 False) False ∧ bsplit q1 q10 False ∧ bsplit q1 q9 False ∧ bsplit q5 q11 False) ∧ ∀ (z : Unit), True → (∃ (z : Nat), ((z ≤ l.length ∧ ∀ (i : Nat), i < z → oneE (startL ps bs k) bs k l i = (0 : Int)) ∧ avM (slX 6 bs) (slX 6 bs) ∧ (IntKind.i64 = .i64 ∧ k = k) ∧ avM q7 q7 ∧ (nat_lit 0 + 2 = 2 ∧ 0 = 0) ∧ q12 ∧ avM (slX 3 l) (slX 3 l) ∧ q13 ∧ IntKind.i64 = .i64 ∧ (0 : Int) = (z : Int)) ∧ ((4 = 4 ∧ 1 = 1 ∧ List.length (startL ps bs k) = List.length (startL ps bs k) ∧ ∀ (i j : Nat), i < List.length (startL ps bs k) → j < 1 → memB [] i = memB (seenU l z) i) ∧ 3 = 3 ∧ 1 = 1 ∧ bs.length =
 bs.length ∧ ∀ (i j : Nat), i < bs.length → j < 1 → IntKind.i64 = .i64 ∧ (↑(usedN [] (i : Int)) : Int) = (↑(usedN (List.take z l) (i : Int)) : Int)) ∧ 98 = 98 ∧ 1 = 1 ∧ nat_lit 0 = 0 ∧ 0 = 0 ∧ List.length (startL ps bs k) = List.length (startL ps bs k)) ∧ ∀ (z : Nat), let q15 := (AV.agg 3 fun (i : Nat) => if 0 ≤ 0 + i ∧ 0 + i < 3 then (fun i j => Enc.enc (List.getD l i Enc.dflt) j) (Int.toNat (z : Int)) (0 + (0 + i - 0)) else zcell (Value.agg #[Value.int .i64 (0 : Int), Value.slice (Non Addr) 0 0, Value.slice (Non Addr) 0 0]) (0 + i)); let q17 := (agD q15); let q21 := (List.getD l (Int.toNat (z
 : Int)) Enc.dflt); let q20 := (Used.ps q21); let q19 := (slN q20); let q18 := (slOk Int q19); let q23 := (AV.xl false 1 (List.length (startL ps bs k)) fun i j => AV.v (Value.bool (memB (seenU l z) (0 + i)))); let q22 := (slOk Bool q23); let q24 := (slD q19); let q25 := (boolsOf q23); let q28 := (AV.int (AV.v (Value.int .i64 (z : Int)))); let q27 := (Int.toNat q28); let q26 := (Used.ps (usedAt l q27)); let q29 := (IntKind.i64 = .i64 ∧ (z : Int) = (z : Int)); let q32 := (List.length q20); let q31 := (↑q32 : Int); let q30 := (IntKind.i64 = .i64 ∧ q31 = q31); let q34 := ((IntKind.i64 = .i64 ∧
 Used.bar q21 = Used.bar q21) ∧ avM q19 q19); let q35 := (slN (Used.at_ q21)); let q38 := (DB.db ((0 : Int) ≤ Used.bar q21 ∧ Used.bar q21 < (bs.length : Int))); let q41 := (Used.bar q21); let q40 := (List.getD bs (Int.toNat q41) Enc.dflt); let q39 := (AV.agg 6 fun (i : Nat) => Enc.enc q40 (0 + i)); let q42 := (agD q39); let q44 := (slN (fitsAt q42 (lensL (slD (AV.xl false 4 (List.length q8) fun i j => Enc.enc (List.getD q8 i Enc.dflt) j)) (slD (AV.xl false 1 q32 fun i j => AV.v (Value.int .i64 (List.getD q20 i Enc.dflt))))) k)); let q46 := (↑(0 + Int.toNat q41) : Int); let q45 := ((↑(usedN
 (List.take z l) q46) : Int) + (1 : Int)); let q47 := (List.take (Int.toNat q28 + 1) l); (z ≤ l.length ∧ ∀ (i : Nat), i < z → oneE (startL ps bs k) bs k l i = (0 : Int)) → bsplit (ltB (z : Int) (l.length : Int)) (bsplit (DB.db ((0 : Int) ≤ (z : Int) ∧ (z : Int) < (l.length : Int))) (bsplit q14 (bsplit (slOk Bar (slX 6 bs)) (bsplit (agOk Used q15) (bsplit (kindE q16 (slD (slX 6 bs)) q17 != (0 : Int)) (IntKind.i64 = .i64 ∧ kindE q16 (slD (slX 6 bs)) q17 = checkE ps bs k l) (bsplit q18 (bsplit q22 (bsplit (inS q24 q25) (bsplit (List.any q24 (seenIn q25)) (IntKind.i64 = .i64 ∧ (7 : Int) = checkE ps
 bs k l) ((∃ (z_1 : Nat), (z_1 ≤ List.length q26 ∧ avM (slX 6 bs) (slX 6 bs) ∧ (IntKind.i64 = .i64 ∧ k = k) ∧ avM q7 q7 ∧ (nat_lit 0 + 2 = 2 ∧ 0 = 0) ∧ q12 ∧ (nat_lit 3 = 3 ∧ 0 = 0) ∧ avM (slX 3 l) (slX 3 l) ∧ q13 ∧ q29 ∧ avM q19 q19 ∧ q30 ∧ IntKind.i64 = .i64 ∧ (0 : Int) = (z_1 : Int)) ∧ (((4 = 4 ∧ 1 = 1 ∧ List.length (startL ps bs k) = List.length (startL ps bs k) ∧ ∀ (i j : Nat), i < List.length (startL ps bs k) → j < 1 → memB (seenU l z) i = memB (seenU l q27 ++ List.take z_1 q26) i) ∧ 3 = 3 ∧ 1 = 1 ∧ bs.length = bs.length ∧ ∀ (i j : Nat), let q33 := (↑(usedN (List.take z l) (i : Int)) :
 Int); i < bs.length → j < 1 → IntKind.i64 = .i64 ∧ q33 = q33) ∧ 98 = 98 ∧ 1 = 1 ∧ nat_lit 0 = 0 ∧ 0 = 0 ∧ List.length (startL ps bs k) = List.length (startL ps bs k)) ∧ 50 = 50 ∧ 3 = 3 ∧ q34 ∧ avM q35 q35) ∧ ∀ (z_1 : Nat), let q36 := (seenU l q27 ++ List.take z_1 q26); z_1 ≤ List.length q26 → bsplit (ltB (z_1 : Int) q31) (bsplit (DB.db ((0 : Int) ≤ (z_1 : Int) ∧ (z_1 : Int) < q31)) (bsplit (DB.db ((0 : Int) ≤ List.getD q20 (Int.toNat (z_1 : Int)) Enc.dflt ∧ List.getD q20 (Int.toNat (z_1 : Int)) Enc.dflt < (↑(List.length (startL ps bs k)) : Int))) (bsplit (DB.db (inK .i64 ((z_1 : Int) + (1 :
 Int)))) (∃ (z' : Nat), ((z' ≤ List.length q26 ∧ List.length q26 - z' < List.length q26 - z_1) ∧ avM (slX 6 bs) (slX 6 bs) ∧ (IntKind.i64 = .i64 ∧ k = k) ∧ avM q7 q7 ∧ (nat_lit 0 + 2 = 2 ∧ 0 = 0) ∧ q12 ∧ (nat_lit 3 = 3 ∧ 0 = 0) ∧ avM (slX 3 l) (slX 3 l) ∧ q13 ∧ q29 ∧ avM q19 q19 ∧ q30 ∧ IntKind.i64 = .i64 ∧ (z_1 : Int) + (1 : Int) = (z' : Int)) ∧ (((4 = 4 ∧ 1 = 1 ∧ List.length (startL ps bs k) = List.length (startL ps bs k) ∧ ∀ (i j : Nat), i < List.length (startL ps bs k) → j < 1 → avM (if i = 0 + Int.toNat (List.getD q20 (Int.toNat (z_1 : Int)) Enc.dflt) ∧ 0 ≤ j ∧ j < 1 then AV.v (Value.bool
 true) else AV.v (Value.bool (memB q36 i))) (AV.v (Value.bool (memB (seenU l q27 ++ List.take z' q26) i)))) ∧ 3 = 3 ∧ 1 = 1 ∧ bs.length = bs.length ∧ ∀ (i j : Nat), let q37 := (↑(usedN (List.take z l) (i : Int)) : Int); i < bs.length → j < 1 → IntKind.i64 = .i64 ∧ q37 = q37) ∧ 98 = 98 ∧ 1 = 1 ∧ nat_lit 0 = 0 ∧ 0 = 0 ∧ List.length (startL ps bs k) = List.length (startL ps bs k)) ∧ 50 = 50 ∧ 3 = 3 ∧ q34 ∧ avM q35 q35) False) False) False) (bsplit q38 (bsplit q14 (bsplit (agOk Bar q39) (bsplit q18 (bsplit (inL q16 q24 && Nat.blt (List.length (intsOf q19)) 1000000000) (bsplit (!fitsOk q42 (lensL q16
 q24) k) q43 (bsplit (slOk Int q44) (bsplit (slOk Int q35) (bsplit (!decide (intsOf q44 = intsOf q35)) (IntKind.i64 = .i64 ∧ (9 : Int) = checkE ps bs k l) (bsplit q38 (bsplit (DB.db (inK .i64 q45)) (bsplit q38 (∃ (z_2 : Unit), (True ∧ avM (slX 6 bs) (slX 6 bs) ∧ (IntKind.i64 = .i64 ∧ k = k) ∧ avM q7 q7 ∧ (nat_lit 0 + 2 = 2 ∧ 0 = 0) ∧ q12 ∧ (nat_lit 3 = 3 ∧ 0 = 0) ∧ avM (slX 3 l) (slX 3 l) ∧ q13 ∧ IntKind.i64 = .i64 ∧ (z : Int) = (z : Int)) ∧ (((4 = 4 ∧ 1 = 1 ∧ List.length (startL ps bs k) = List.length (startL ps bs k) ∧ ∀ (i j : Nat), i < List.length (startL ps bs k) → j < 1 → memB q36 i = memB
 q36 i) ∧ 3 = 3 ∧ 1 = 1 ∧ bs.length = bs.length ∧ ∀ (i j : Nat), i < bs.length → j < 1 → avM (if i = 0 + Int.toNat q41 ∧ 0 ≤ j ∧ j < 1 then AV.v (Value.int .i64 q45) else AV.v (Value.int .i64 (↑(usedN (List.take z l) (i : Int)) : Int))) (AV.v (Value.int .i64 (↑(usedN q47 (i : Int)) : Int)))) ∧ 98 = 98 ∧ 1 = 1 ∧ nat_lit 0 = 0 ∧ 0 = 0 ∧ List.length (startL ps bs k) = List.length (startL ps bs k)) ∧ 50 = 50 ∧ 3 = 3 ∧ q34 ∧ avM q35 q35) False) False) False ∧ ∀ (z_2 : Unit), True → bsplit q38 (bsplit q38 (bsplit (ltB (Bar.n q40) (↑(usedN q47 q46) : Int)) q43 (bsplit (DB.db (inK .i64 ((z : Int) + (1 :
 Int)))) (∃ (z' : Nat), (((z' ≤ l.length ∧ ∀ (i : Nat), i < z' → oneE (startL ps bs k) bs k l i = (0 : Int)) ∧ l.length - z' < l.length - z) ∧ avM (slX 6 bs) (slX 6 bs) ∧ (IntKind.i64 = .i64 ∧ k = k) ∧ avM q7 q7 ∧ (nat_lit 0 + 2 = 2 ∧ 0 = 0) ∧ q12 ∧ avM (slX 3 l) (slX 3 l) ∧ q13 ∧ IntKind.i64 = .i64 ∧ (z : Int) + (1 : Int) = (z' : Int)) ∧ ((4 = 4 ∧ 1 = 1 ∧ List.length (startL ps bs k) = List.length (startL ps bs k) ∧ ∀ (i j : Nat), i < List.length (startL ps bs k) → j < 1 → memB q36 i = memB (seenU l z') i) ∧ 3 = 3 ∧ 1 = 1 ∧ bs.length = bs.length ∧ ∀ (i j : Nat), i < bs.length → j < 1 →
 IntKind.i64 = .i64 ∧ (↑(usedN q47 (i : Int)) : Int) = (↑(usedN (List.take z' l) (i : Int)) : Int)) ∧ 98 = 98 ∧ 1 = 1 ∧ nat_lit 0 = 0 ∧ 0 = 0 ∧ List.length (startL ps bs k) = List.length (startL ps bs k)) False)) False) False)) False) False)) False) False) False) False) False))) False) False) False)) False) False) False) False) (bsplit q22 (bsplit (hasBB q25 false) (IntKind.i64 = .i64 ∧ (6 : Int) = checkE ps bs k l) (IntKind.i64 = .i64 ∧ (0 : Int) = checkE ps bs k l)) False)))) False) False := by
  dsimp only
  intro hb
  have e0 : (Enc.dflt : Int) = 0 := rfl
  have e1 : (Enc.dflt : Cut) = ⟨0, 0, 0, []⟩ := rfl
  have e2 : (Enc.dflt : Bar) = ⟨0, 0, 0, 0, 0, []⟩ := rfl
  have e3 : (Enc.dflt : Used) = ⟨0, [], []⟩ := rfl
  simp only [slX, slN, avM_refl, true_and, and_true, bsel_true, bsel_false, vc_own, bif_or, bif_and, vc_gdb, vc_db, vc_lt, vc_le, vc_ne, vc_eq, vc_tt, Int.toNat_natCast, Nat.zero_add, Nat.zero_le, Nat.sub_zero, agD_bar, agOk_bar, agD_bar', agOk_bar', agD_cut, agOk_cut, agD_cut', agOk_cut', agD_used, agOk_used, agD_used', agOk_used', int_i, Bool.or_true, cond_true, cond_false, okC, okC', deC, deC', okB, deB, okB', deB', okIn, okIn', deI, deI', okU, okU', deU, deU', okBl, deBl, okUl, deUl, deIo, cutsOf_sl, deUo, okBf, deBf, e0, e1, e2, e3, ltB_nat, pred_nat]
  have hu : ∀ z, l.getD z ⟨0, [], []⟩ = usedAt l z := fun _ => rfl
  have hbr : ∀ z, bs.getD (usedAt l z).bar.toNat ⟨0, 0, 0, 0, 0, []⟩ = barAt bs (usedAt l z) := fun _ => rfl
  have hO : ∀ z, fitsOk (barAt bs (usedAt l z)) (lensL (startL ps bs k) (usedAt l z).ps) k = laidOk (startL ps bs k) bs k (usedAt l z) := fun _ => rfl
  have hA : ∀ z, fitsAt (barAt bs (usedAt l z)) (lensL (startL ps bs k) (usedAt l z).ps) k = laidAt (startL ps bs k) bs k (usedAt l z) := fun _ => rfl
  simp only [hu, hbr, hO, hA]
  refine ⟨fun h1 => ?_, fun h1 => ⟨fun h2 => ?_, fun h2 => ?_⟩⟩
  · unfold checkE; rw [bne_iff_ne.2 h1]; rfl
  · unfold checkE; rw [h1, (blt_iff _ _).2 (by omega)]; rfl
  have hc : checkE ps bs k l = bif firstN (oneE (startL ps bs k) bs k l) l.length 0 != 0 then firstN (oneE (startL ps bs k) bs k l) l.length 0
      else bif Nat.blt (sumP l l.length) (startL ps bs k).length then 6 else 0 := by
    unfold checkE
    rw [h1, show Nat.blt 64 l.length = false by rw [Bool.eq_false_iff]; intro h; have := (blt_iff _ _).1 h; omega]
    rfl
  have hS := start_le (ps := ps) (bs := bs) (k := k)
  have hB := bars_len (start_bars h1).1
  have hat : ∀ z v, z < l.length → (∀ i, i < z → oneE (startL ps bs k) bs k l i = 0) → oneE (startL ps bs k) bs k l z = v → v ≠ 0 → v = checkE ps bs k l := fun z v hz z2 hv hv0 => by
    rw [hc, firstN_at (k := z) hz z2 (by rw [hv]; exact hv0), hv, bne_iff_ne.2 hv0]; rfl
  refine ⟨?_, fun _ _ => ?_⟩
  · have J : ∃ z : Unit, (∀ (i j : Nat), i < (startL ps bs k).length → j < 1 → avM (zcell (Value.bool false) j) (AV.v (Value.bool (memB [] i)))) ∧
        ∀ (i j : Nat), i < bs.length → j < 1 → avM (zcell (Value.int IntKind.i64 0) j) (AV.v (Value.int IntKind.i64 ↑(usedN [] ↑i))) :=
      ⟨(), fun i j _ hj => by obtain rfl : j = 0 := Nat.lt_one_iff.1 hj; exact avM_of_eq rfl, fun i j _ hj => by obtain rfl : j = 0 := Nat.lt_one_iff.1 hj; exact avM_of_eq rfl⟩
    have a1 : 0 ≤ ((startL ps bs k).length : Int) := by omega
    have a2 : ((1 : Nat) : Int) * ((startL ps bs k).length : Int) ≤ 140737488355328 := by omega
    have a3 : 0 ≤ (bs.length : Int) := by omega
    have a4 : ((8 : Nat) : Int) * (bs.length : Int) ≤ 140737488355328 := by omega
    and_intros <;> first | exact J | exact a1 | exact Int.le_refl _ | exact a2 | exact a3 | exact a4
  generalize startL ps bs k = all at *
  refine ⟨⟨0, ⟨⟨by omega, fun i hi => by omega⟩, rfl⟩, fun i j _ _ => rfl, fun i j _ _ => rfl⟩, fun z ⟨z1, z2⟩ => ⟨fun hz => ⟨by omega, fun c1 => hat z _ (by omega) z2 (one_kind c1) c1, fun c1 => ?_⟩, fun hz => ?_⟩⟩
  · obtain ⟨k1, k2, k3, k4, k5⟩ := kindE_ok c1
    have hlen := asc_le (fun i hi => inL_at k4 hi) k5
    have hr : ∀ x ∈ (usedAt l z).ps, 0 ≤ x ∧ x < all.length := fun x hx => by
      have := List.all_eq_true.1 k4 x hx
      rw [Bool.and_eq_true, leB_iff, ltB_iff] at this
      exact this
    have hbar : 0 ≤ (usedAt l z).bar ∧ (usedAt l z).bar < bs.length := ⟨k1, k2⟩
    have hbt : ((usedAt l z).bar.toNat : Int) = (usedAt l z).bar := Int.toNat_of_nonneg k1
    refine vc_b.2 ⟨?_, ?_⟩
    · show inS (usedAt l z).ps (listOf all.length (memB (seenU l z))) = true
      unfold inS
      rw [show (listOf all.length (memB (seenU l z))).length = all.length by simp [listOf]]
      exact k4
    rw [seen_any hr]
    refine bsplit_iff.2 ⟨fun c2 => hat z 7 (by omega) z2 (one_seen c1 c2) (by decide), fun c2 => ⟨⟨0, ⟨by omega, rfl⟩, fun i j _ _ => by rw [List.take_zero, List.append_nil], fun _ _ _ _ => trivial⟩, fun y hy => ⟨fun hyl => ?_, fun hyl => ?_⟩⟩⟩
    · have h3 := inL_at k4 (i := y) (by omega)
      refine ⟨by omega, h3, by simp only [inK]; omega, y + 1, ⟨by omega, by omega⟩, fun i j _ hj => ?_, fun _ _ _ _ => trivial⟩
      rw [memI_take i (by omega) h3.1]
      by_cases e : i = ((usedAt l z).ps.getD y 0).toNat
      · rw [if_pos ⟨e, hj⟩, if_pos e]; exact avM_refl _
      · rw [if_neg fun h => e h.1, if_neg e]; exact avM_refl _
    refine ⟨hbar, vc_b.2 ⟨by rw [k4, (blt_iff _ _).2 (by omega)]; rfl, bsplit_iff.2 ⟨fun c3 => ?_, fun c3 => bsplit_iff.2 ⟨fun c4 => ?_, fun c4 => ?_⟩⟩⟩⟩
    · rw [Bool.not_eq_true'] at c3
      exact hat z 22 (by omega) z2 (one_lay c1 c2 c3) (by decide)
    · rw [Bool.not_eq_false'] at c3
      rw [Bool.not_eq_true', decide_eq_false_iff_not] at c4
      exact hat z 9 (by omega) z2 (one_at c1 c2 c3 c4) (by decide)
    rw [Bool.not_eq_false'] at c3 c4
    rw [decide_eq_true_eq] at c4
    have hn := one_n c1 c2 c3 c4
    have hle := used_le l z ((usedAt l z).bar.toNat : Int)
    have hle2 := used_le l (z + 1) (usedAt l z).bar
    refine ⟨⟨hbar, by simp only [inK]; omega, hbar, (), fun _ _ _ _ => trivial, fun i j hi hj => ?_⟩, fun _ _ => ⟨hbar, hbar, fun h => ?_, fun h => ?_⟩⟩
    · have hs := used_succ (l := l) (z := z) (by omega) (i : Int)
      by_cases e : i = (usedAt l z).bar.toNat
      · rw [if_pos (show (usedAt l z).bar = (i : Int) by omega)] at hs
        rw [if_pos ⟨e, hj⟩, hs, ← e]
        exact avM_of_eq (by rw [Int.natCast_add]; rfl)
      · rw [if_neg (show ¬ (usedAt l z).bar = (i : Int) by omega)] at hs
        rw [if_neg fun h => e h.1, hs]
        exact avM_refl _
    · rw [hbt] at h
      exact hat z 22 (by omega) z2 (by rw [hn, (ltB_iff _ _).2 h]; rfl) (by decide)
    · rw [hbt] at h
      rw [show ltB (barAt bs (usedAt l z)).n (usedN (l.take (z + 1)) (usedAt l z).bar) = false by rw [ltB_eq, decide_eq_false_iff_not]; omega] at hn
      exact ⟨by simp only [inK]; omega, z + 1, ⟨⟨⟨by omega, fun i hi => by
        by_cases e : i = z
        · rw [e]; exact hn
        · exact z2 i (by omega)⟩, by omega⟩, by omega⟩, fun i j _ _ => by rw [seenU, List.take_of_length_le (by omega)], fun _ _ _ _ => rfl⟩
  · have hzl : z = l.length := by omega
    obtain ⟨s1, s2⟩ := seen_ok (z := z) z2
    rw [cover s1 s2, seen_len, hzl, hc, firstN_none fun i hi => z2 i (by omega)]
    cases Nat.blt (sumP l l.length) all.length <;> exact rfl
def nchk_t : List AV → Option (List Cond × AV)
  | [x, y, .v (.int .i64 k), z] => some ([.b (slOk Cut x), .b (slOk Bar y), .b (slOk Used z)], .i (checkE (cutsOf x) (slD y) k (usedOf z)))
  | _ => none
theorem ncheck_T : PureT Tryz.prog [] 27 nchk_t := by
  intro xs ps r h hp
  unfold nchk_t at h
  split at h
  · rename_i x y k z
    cases h
    exact weaken (ys := [_, _, _, _]) ⟨slE_sound (hp _ List.mem_cons_self), slE_sound (hp _ (List.mem_cons_of_mem _ List.mem_cons_self)), avM_refl _, slE_sound (hp _ (List.mem_cons_of_mem _ (List.mem_cons_of_mem _ List.mem_cons_self))), trivial⟩
      (pure_of_vc mixed Tnc_sound (Eq.mp (by kernel_rfl) (ncheck_vc (cutsOf x) (slD y) k (usedOf z)) : vcFn Tryz.prog Tnc 27 (ncheck_an (cutsOf x) (slD y) k (usedOf z)) [slE (cutsOf x), slE (slD y), .i k, slE (usedOf z)] (.i (checkE (cutsOf x) (slD y) k (usedOf z)))))
  · cases h
theorem rcheck_T : PureT Tryz.prog [] 28 nchk_t := by
  intro xs ps r h hp
  unfold nchk_t at h
  split at h
  · rename_i x y k z
    cases h
    exact weaken (ys := [_, _, _, _]) ⟨slE_sound (hp _ List.mem_cons_self), slE_sound (hp _ (List.mem_cons_of_mem _ List.mem_cons_self)), avM_refl _, slE_sound (hp _ (List.mem_cons_of_mem _ (List.mem_cons_of_mem _ List.mem_cons_self))), trivial⟩
      (pure_of_vc mixed Trc2_sound (Eq.mp (by kernel_rfl) (rcheck_vc (cutsOf x) (slD y) k (usedOf z)) : vcFn Tryz.prog Trc2 28 (rcheck_an (cutsOf x) (slD y) k (usedOf z)) [slE (cutsOf x), slE (slD y), .i k, slE (usedOf z)] (.i (checkE (cutsOf x) (slD y) k (usedOf z)))))
  · cases h
end Go.Tz
