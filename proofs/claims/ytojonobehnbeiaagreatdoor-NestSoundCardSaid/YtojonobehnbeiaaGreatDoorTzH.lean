/- Contracts: Same, Great. -/
import Derived.Test.YtojonobehnbeiaaGreatDoorTzG
namespace Go.Tz
open Go Go.Sx Go.Proofs
set_option maxRecDepth 100000
theorem rdI_eq (l : List Int) : rdI (.xl false 1 l.length fun i _ => .v (.int .i64 (l.getD i Enc.dflt))) = l := listOf_getD l (0 : Int)
theorem imp_t {p : Prop} : (p → True) = True := by simp
def same_bn (l m : List Used) : Ann :=
  .two .auto (.two .auto (.two (.two .auto (.one (.loop Nat (fun σ z => [(0, σ.tm 0), (1, σ.tm 1), (5, .i z)]) (fun _ _ => []) 0
    (fun _ z => z ≤ l.length ∧ ∀ i, i < z → l.getD i Enc.dflt = m.getD i Enc.dflt) (fun _ z => l.length - z) .auto))) .auto))
theorem same_vc (l m : List Used) :
 let q1 := (AV.xl false 3 (l.length) fun i j => Enc.enc (List.getD l i Enc.dflt) j); let q2 := (AV.xl false 3 (m.length) fun i j => Enc.enc (List.getD m i Enc.dflt) j); bndL [AV.xl false 3 (l.length) fun i j => Enc.enc (List.getD l i Enc.dflt) j, AV.xl false 3 (m.length) fun i j => Enc.enc (List.getD m i Enc.dflt) j] → bsplit ((l.length : Int) != (m.length : Int)) (false = decide (l = m)) ((∃ (z : Nat), ((z ≤ l.length ∧ ∀ (i : Nat), i < z → List.getD l i Enc.dflt = List.getD m i Enc.dflt) ∧ avM q1 q1 ∧ avM q2 q2 ∧ IntKind.i64 = .i64 ∧ (0 : Int) = (z : Int)) ∧ True) ∧ ∀ (z : Nat), let q3 := ((0 :
 Int) ≤ (z : Int) ∧ (z : Int) < (l.length : Int)); let q4 := ((0 : Int) ≤ (z : Int) ∧ (z : Int) < (m.length : Int)); let q7 := (List.getD l (Int.toNat (z : Int)) Enc.dflt); let q8 := (List.getD m (Int.toNat (z : Int)) Enc.dflt); let q6 := (Used.bar q7 != Used.bar q8); let q5 := (!bsel false q6 || bsel false q6); let q9 := (Used.ps q7); let q10 := (Used.ps q8); let q13 := (List.length q9); let q14 := (List.length q10); let q12 := (bif Used.bar q7 != Used.bar q8 then true else !decide (rdI (AV.xl false 1 q13 fun i j => AV.v (Value.int .i64 (List.getD q9 i Enc.dflt))) = rdI (AV.xl false 1 q14 fun i
 j => AV.v (Value.int .i64 (List.getD q10 i Enc.dflt))))); let q11 := (!bsel false q12 || bsel false q12); let q15 := (Used.at_ q7); let q16 := (Used.at_ q8); let q17 := (rdI (AV.xl false 1 q13 fun i j => AV.v (Value.int IntKind.i64 (List.getD (Used.ps (List.getD l (Int.toNat (↑z : Int)) Enc.dflt)) i Enc.dflt))) = rdI (AV.xl false 1 q14 fun i j => AV.v (Value.int IntKind.i64 (List.getD (Used.ps (List.getD m (Int.toNat (↑z : Int)) Enc.dflt)) i Enc.dflt)))); (z ≤ l.length ∧ ∀ (i : Nat), i < z → List.getD l i Enc.dflt = List.getD m i Enc.dflt) → bsplit (ltB (z : Int) (l.length : Int)) (bsplit
 (DB.db q3) (bsplit (DB.db q4) (bsplit q5 (bsplit q5 (bsplit (!bsel false q6 || DB.db q3) (bsplit q5 (bsplit q5 (bsplit q5 (bsplit q5 (bsplit (!bsel false q6 || DB.db q4) (bsplit q5 (bsplit q5 (bsplit q5 (bsplit q5 ((bsel false q6 = true → 1 = 1 ∧ ∀ (i : Nat), i < List.length q9 → isI64 (AV.v (Value.int .i64 (List.getD q9 i Enc.dflt))) = true) ∧ (bsel false q6 = true → 1 = 1 ∧ ∀ (i : Nat), i < List.length q10 → isI64 (AV.v (Value.int .i64 (List.getD q10 i Enc.dflt))) = true) ∧ bsplit q5 (bsplit (!!Used.bar q7 != Used.bar q8 || bsel false q6) (bsplit q11 (bsplit q11 (bsplit (!bsel false q12 ||
 DB.db q3) (bsplit q11 (bsplit q11 (bsplit q11 (bsplit q11 (bsplit (!bsel false q12 || DB.db q4) (bsplit q11 (bsplit q11 (bsplit q11 (bsplit q11 ((bsel false q12 = true → 1 = 1 ∧ ∀ (i : Nat), i < List.length q15 → isI64 (AV.v (Value.int .i64 (List.getD q15 i Enc.dflt))) = true) ∧ (bsel false q12 = true → 1 = 1 ∧ ∀ (i : Nat), i < List.length q16 → isI64 (AV.v (Value.int .i64 (List.getD q16 i Enc.dflt))) = true) ∧ bsplit q11 (bsplit ((!!bif Used.bar q7 != Used.bar q8 then true else !decide q17) || bsel false q12) (bsplit (bif bif Used.bar q7 != Used.bar q8 then true else !decide q17 then true else
 !decide (rdI (AV.xl false 1 (List.length q15) fun i j => AV.v (Value.int .i64 (List.getD q15 i Enc.dflt))) = rdI (AV.xl false 1 (List.length q16) fun i j => AV.v (Value.int .i64 (List.getD q16 i Enc.dflt))))) (false = decide (l = m)) (bsplit (DB.db (inK .i64 ((z : Int) + (1 : Int)))) (∃ (z' : Nat), (((z' ≤ l.length ∧ ∀ (i : Nat), i < z' → List.getD l i Enc.dflt = List.getD m i Enc.dflt) ∧ l.length - z' < l.length - z) ∧ avM q1 q1 ∧ avM q2 q2 ∧ IntKind.i64 = IntKind.i64 ∧ (z : Int) + (1 : Int) = (z' : Int)) ∧ True) False)) False) False) False) False) False) False) False) False) False) False)
 False) False) False) False) False) False) False) False) False) False) False) False) False) False) False) False) False) False) False) False) (true = decide (l = m))) := by
  dsimp only
  intro hb
  simp only [bsel_true, bsel_false, vc_own, bif_or, bif_and, vc_gdb, vc_db, vc_lt, vc_ne, Int.toNat_natCast, avM_refl, true_and, and_true, rdI_eq, isI64, implies_true]
  have hl : l.length ≤ 9223372036854775807 := hb.1.1
  refine ⟨fun hne => ?_, fun heq => ⟨⟨0, ⟨by omega, fun i hi => by omega⟩, rfl⟩, fun z ⟨h1, h2⟩ => ⟨fun hz => ⟨⟨by omega, by omega⟩, ⟨by omega, by omega⟩, fun _ => ⟨by omega, by omega⟩, fun _ => ⟨by omega, by omega⟩, fun _ => ⟨by omega, by omega⟩, fun _ => ⟨by omega, by omega⟩,
    bsplit_iff.2 ⟨fun ht => ?_, fun hf => ⟨by simp only [inK]; omega, z + 1, ⟨⟨by omega, fun i hi => ?_⟩, by omega⟩, by omega⟩⟩⟩, fun hz => ?_⟩⟩⟩
  · rw [Eq.comm, decide_eq_false_iff_not]
    rintro rfl
    exact hne rfl
  · rw [Eq.comm, decide_eq_false_iff_not]
    rintro rfl
    simp at ht
  · by_cases e : i = z
    · subst e
      simp only [Bool.or_eq_false_iff, bne_eq_false_iff_eq, Bool.not_eq_false', decide_eq_true_eq] at hf
      obtain ⟨⟨f1, f2⟩, f3⟩ := hf
      generalize l.getD i Enc.dflt = x at *
      generalize m.getD i Enc.dflt = y at *
      cases x; cases y
      simp_all
    · exact h2 i (by omega)
  · rw [Eq.comm, decide_eq_true_eq]
    apply List.ext_getElem (by omega)
    intro i h3 h4
    have := h2 i (by omega)
    simpa [List.getD_eq_getElem?_getD, h3, h4] using this
def gBad (u : Used) : Bool := (ltB 8 (u.ps.length : Int) && leB (u.ps.length : Int) 64) || ltB 66 (u.ps.length : Int) || ltB 66 (u.at_.length : Int)
def great_an (l : List Used) : Ann :=
  .two .auto (.two (.two .auto (.one (.loop Nat (fun σ z => [(0, σ.tm 0), (3, .i z)]) (fun _ _ => []) 0
    (fun _ z => z ≤ l.length ∧ z ≤ 9 ∧ ∀ i, i < z → gBad (l.getD i Enc.dflt) = false) (fun _ z => l.length - z) .auto))) .auto)
def greatB (l : List Used) : Bool := (l.take 9).any gBad || (ltB 8 (l.length : Int) && leB (l.length : Int) 64) || ltB 66 (l.length : Int)
theorem great_vc (l : List Used) :
 let q1 := (AV.xl false 3 (l.length) fun i j => Enc.enc (List.getD l i Enc.dflt) j); let q9 := (!bsel true (ltB (8 : Int) (l.length : Int)) || bsel true (ltB (8 : Int) (l.length : Int))); let q11 := (bif ltB (8 : Int) (l.length : Int) then leB (l.length : Int) (64 : Int) else false); let q10 := (!bsel false q11 || bsel false q11); bndL [AV.xl false 3 (l.length) fun i j => Enc.enc (List.getD l i Enc.dflt) j] → (∃ (z : Nat), ((z ≤ l.length ∧ z ≤ 9 ∧ ∀ (i : Nat), i < z → gBad (List.getD l i Enc.dflt) = false) ∧ avM q1 q1 ∧ IntKind.i64 = .i64 ∧ (0 : Int) = (z : Int)) ∧ True) ∧ ∀ (z : Nat), let q2 :=
 ((0 : Int) ≤ (z : Int) ∧ (z : Int) < (l.length : Int)); let q5 := (List.getD l (Int.toNat (z : Int)) Enc.dflt); let q4 := (↑(List.length (Used.ps q5)) : Int); let q3 := (ltB (8 : Int) q4); let q6 := (bif ltB (8 : Int) q4 then leB q4 (64 : Int) else false); let q8 := (bif bif ltB (8 : Int) q4 then leB q4 (64 : Int) else false then true else ltB (66 : Int) q4); let q7 := (!bsel false q8 || bsel false q8); (z ≤ l.length ∧ z ≤ 9 ∧ ∀ (i : Nat), i < z → gBad (List.getD l i Enc.dflt) = false) → bsplit (!bsel true (ltB (z : Int) (l.length : Int)) || bsel true (ltB (z : Int) (l.length : Int))) (bsplit
 (!ltB (z : Int) (l.length : Int) || bsel true (ltB (z : Int) (l.length : Int))) (bsplit (bif ltB (z : Int) (l.length : Int) then ltB (z : Int) (9 : Int) else false) (bsplit (DB.db q2) (bsplit (!bsel true q3 || bsel true q3) (bsplit (!ltB (8 : Int) q4 || bsel true q3) (bsplit (!bsel false q6 || bsel false q6) (bsplit ((!!bif ltB (8 : Int) q4 then leB q4 (64 : Int) else false) || bsel false q6) (bsplit q7 (bsplit q7 (bsplit (!bsel false q8 || DB.db q2) (bsplit q7 (bsplit q7 (bsplit q7 (bsplit q7 (bsplit ((!!bif bif ltB (8 : Int) q4 then leB q4 (64 : Int) else false then true else ltB (66 : Int)
 q4) || bsel false q8) (bsplit (bif bif bif ltB (8 : Int) q4 then leB q4 (64 : Int) else false then true else ltB (66 : Int) q4 then true else ltB (66 : Int) (↑(List.length (Used.at_ q5)) : Int)) (true = greatB l) (bsplit (DB.db (inK .i64 ((z : Int) + (1 : Int)))) (∃ (z' : Nat), (((z' ≤ l.length ∧ z' ≤ 9 ∧ ∀ (i : Nat), i < z' → gBad (List.getD l i Enc.dflt) = false) ∧ l.length - z' < l.length - z) ∧ avM q1 q1 ∧ IntKind.i64 = .i64 ∧ (z : Int) + (1 : Int) = (z' : Int)) ∧ True) False)) False) False) False) False) False) False) False) False) False) False) False) False) False) (bsplit q9 (bsplit q9
 (bsplit (!ltB (8 : Int) (l.length : Int) || bsel true (ltB (8 : Int) (l.length : Int))) (bsplit q10 (bsplit q10 (bsplit ((!!bif ltB (8 : Int) (l.length : Int) then leB (l.length : Int) (64 : Int) else false) || bsel false q11) ((bif bif ltB (8 : Int) (l.length : Int) then leB (l.length : Int) (64 : Int) else false then true else ltB (66 : Int) (l.length : Int)) = greatB l) False) False) False) False) False) False)) False) False := by
  dsimp only
  intro hb
  simp only [bsel_true, bsel_false, vc_own, bif_or, bif_and, vc_gdb, vc_db, vc_lt, vc_ne, Int.toNat_natCast, avM_refl, true_and, and_true, rdI_eq, isI64, implies_true]
  have hl : l.length ≤ 9223372036854775807 := hb.1
  refine ⟨⟨0, ⟨by omega, by omega, fun i hi => by omega⟩, rfl⟩, fun z ⟨h1, h2, h3⟩ => bsplit_iff.2 ⟨fun hz => ?_, fun hz => ?_⟩⟩
  · simp only [Bool.and_eq_true, ltB_iff] at hz
    refine ⟨⟨by omega, by omega⟩, fun _ => ⟨by omega, by omega⟩, (bsplit_iff (t := gBad (l.getD z Enc.dflt))).2 ⟨fun ht => ?_, fun hf => ⟨by simp only [inK]; omega, z + 1, ⟨⟨by omega, by omega, fun i hi => ?_⟩, by omega⟩, by omega⟩⟩⟩
    · have : (l.take 9).any gBad = true := List.any_eq_true.2 ⟨_, List.mem_iff_getElem?.2 ⟨z, by
        rw [List.getElem?_take, if_pos (by omega), List.getD_eq_getElem?_getD, List.getElem?_eq_getElem (by omega), Option.getD_some]⟩, ht⟩
      simp [greatB, this]
    · by_cases e : i = z
      · subst e; exact hf
      · exact h3 i (by omega)
  · have : (l.take 9).any gBad = false := by
      rw [Bool.eq_false_iff]
      intro h
      obtain ⟨u, hu, hg⟩ := List.any_eq_true.1 h
      obtain ⟨i, hi⟩ := List.mem_iff_getElem?.1 hu
      rw [List.getElem?_take] at hi
      split at hi
      · have hlt : i < l.length := (List.getElem?_eq_some_iff.1 hi).1
        have hz' : ¬ ((z : Int) < l.length ∧ (z : Int) < 9) := fun hh => by
          rw [(ltB_iff _ _).2 hh.1, (ltB_iff _ _).2 hh.2] at hz; cases hz
        have := h3 i (by omega)
        rw [List.getD_eq_getElem?_getD, hi, Option.getD_some, hg] at this
        cases this
      · cases hi
    simp [greatB, this]
theorem same_C (l m : List Used) : PureCall Tryz.prog [] 18 [slE l, slE m] (.b (decide (l = m))) :=
  pure_of_vc mixed (TbSound.plus tb0_sound sameI_T) (Eq.mp (by kernel_rfl) (same_vc l m) : vcFn Tryz.prog (T0.plus 44 sameI_t) 18 (same_bn l m) [slE l, slE m] (.b (decide (l = m))))
theorem great_C (l : List Used) : PureCall Tryz.prog [] 22 [slE l] (.b (greatB l)) :=
  pure_of_vc mixed tb0_sound (Eq.mp (by kernel_rfl) (great_vc l) : vcFn Tryz.prog T0 22 (great_an l) [slE l] (.b (greatB l)))
end Go.Tz
