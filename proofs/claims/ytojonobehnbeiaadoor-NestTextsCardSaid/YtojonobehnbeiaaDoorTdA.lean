/- Contracts of small functions. -/
import Derived.Test.YtojonobehnbeiaaDoorSxZ
import Derived.Test.YtojonobehnbeiaaDoorProg
namespace Go.Td
open Go Go.Sx Go.Proofs
set_option maxRecDepth 100000

theorem mixed : Tryd.prog.follows .mixedOrders = true := by kernel_rfl
abbrev T0 : Tb := tb0 []
theorem deep0 (n : Nat) : TbSound Tryd.prog (T0.deep Tryd.prog n) := TbSound.deep mixed tb0_sound n

/-- A slice of integers. -/
def allI (len : Nat) (els : Nat → Nat → AV) : Bool := allN (fun i => isI64 (els i 0)) len
theorem allI_avM {f : Bool} {len : Nat} {els : Nat → Nat → AV} (h : allI len els = true) : avM (.xl f 1 len els) (.xl f 1 len fun i _ => .i (AV.int (els i 0))) := by
  refine ⟨fun h => h, rfl, rfl, fun i j hi hj => ?_⟩
  obtain rfl : j = 0 := by omega
  exact avM_of_eq (isI64_eq (allN_true h i hi))

/-- stock.between -/
def between_t : List AV → Option (List Cond × AV)
  | [.v (.int .i64 n), .v (.int .i64 a), .v (.int .i64 b)] => some ([], .b (leB a n && leB n b))
  | _ => none
theorem between_vc (n a b : Int) : bndL [AV.v (Value.int IntKind.i64 n), AV.v (Value.int IntKind.i64 a), AV.v (Value.int IntKind.i64 b)] →
  bsplit (!bsel true (leB a n) || bsel true (leB a n))
    (bsplit (!bsel true (leB a n) || bsel true (leB a n))
      (bsplit (!leB a n || bsel true (leB a n)) ((bif leB a n then leB n b else false) = (leB a n && leB n b)) False)
      False)
    False := by
  intro _
  simp only [bsel_true, vc_own, ge_iff_le, leB_eq, vc_grd]; grind
theorem between_T : PureT Tryd.prog [] 64 between_t := by
  intro xs ps r h _
  unfold between_t at h
  split at h
  · rename_i n a b
    cases h
    exact pure_of_vc mixed tb0_sound (Eq.mp (by kernel_rfl) (between_vc n a b) : vcFn Tryd.prog T0 64 .auto [.i n, .i a, .i b] (.b (leB a n && leB n b)))
  · cases h

/-- cmp.Compare -/
def cmpI (a b : Int) : Int := if a < b then -1 else if b < a then 1 else 0
def compare_t : List AV → Option (List Cond × AV)
  | [.v (.int .i64 a), .v (.int .i64 b)] => some ([], .i (cmpI a b))
  | _ => none
theorem compare_vc (a b : Int) : bndL [AV.v (Value.int IntKind.i64 a), AV.v (Value.int IntKind.i64 b)] →
  bsplit (a != a)
    (bsplit (b != b) (IntKind.i64 = IntKind.i64 ∧ (0 : Int) = cmpI a b)
      (IntKind.i64 = IntKind.i64 ∧ (-1 : Int) = cmpI a b))
    (bsplit (b != b) (IntKind.i64 = IntKind.i64 ∧ (1 : Int) = cmpI a b)
      (bsplit (ltB a b) (IntKind.i64 = IntKind.i64 ∧ (-1 : Int) = cmpI a b)
        (bsplit (ltB b a) (IntKind.i64 = IntKind.i64 ∧ (1 : Int) = cmpI a b)
          (IntKind.i64 = IntKind.i64 ∧ (0 : Int) = cmpI a b)))) := by
  intro _
  simp only [bsplit_iff, cmpI, ltB_eq]; grind
theorem compare_T : PureT Tryd.prog [] 65 compare_t := by
  intro xs ps r h _
  unfold compare_t at h
  split at h
  · rename_i a b
    cases h
    exact pure_of_vc mixed (deep0 3) (Eq.mp (by kernel_rfl) (compare_vc a b) : vcFn Tryd.prog (T0.deep Tryd.prog 3) 65 .auto [.i a, .i b] (.i (cmpI a b)))
  · cases h

/-- cutlist.ascending -/
def ascB (len : Nat) (g : Nat → Int) : Bool := allN (fun i => decide (g i < g (i + 1))) (len - 1)
theorem ascB_iff {len : Nat} {g : Nat → Int} : ascB len g = true ↔ ∀ i, i + 1 < len → g i < g (i + 1) := by
  unfold ascB
  constructor
  · intro h i hi
    exact of_decide_eq_true (allN_true h i (by omega))
  · intro h
    have : ∀ n, (∀ i, i < n → g i < g (i + 1)) → allN (fun i => decide (g i < g (i + 1))) n = true := by
      intro n
      induction n with
      | zero => intro _; rfl
      | succ n ih => intro h; simp only [allN, Bool.and_eq_true]; exact ⟨ih fun i hi => h i (by omega), decide_eq_true (h n (by omega))⟩
    exact this _ fun i hi => h i (by omega)
def asc_an (len : Nat) (g : Nat → Int) : Ann :=
  .two .auto (.two (.two .auto (.one (.loop Nat (fun σ z => [(0, σ.tm 0), (3, .i z)]) (fun _ _ => []) 0 (fun _ z => 1 ≤ z ∧ (z ≤ len ∨ z = 1) ∧ ∀ i, i + 1 < z → g i < g (i + 1)) (fun _ z => len - z) .auto))) .auto)
theorem asc_vc (f : Bool) (len : Nat) (g : Nat → Int) : bndL [AV.xl f (1 : Nat) len fun (i x : Nat) => AV.v (Value.int IntKind.i64 (g i))] →
  (∃ (z : Nat),
      (((1 : Nat) ≤ z ∧ (z ≤ len ∨ z = (1 : Nat)) ∧ ∀ (i : Nat), i + (1 : Nat) < z → g i < g (i + (1 : Nat))) ∧
          avM (AV.xl f (1 : Nat) len fun (i x : Nat) => AV.v (Value.int IntKind.i64 (g i)))
              (AV.xl f (1 : Nat) len fun (i x : Nat) => AV.v (Value.int IntKind.i64 (g i))) ∧
            IntKind.i64 = IntKind.i64 ∧ (1 : Int) = (↑z : Int)) ∧
        True) ∧
    ∀ (z : Nat),
      ((1 : Nat) ≤ z ∧ (z ≤ len ∨ z = (1 : Nat)) ∧ ∀ (i : Nat), i + (1 : Nat) < z → g i < g (i + (1 : Nat))) →
        bsplit (ltB (↑z : Int) (↑len : Int))
          (bsplit (DB.db ((0 : Int) ≤ (↑z : Int) ∧ (↑z : Int) < (↑len : Int)))
            (bsplit (DB.db (inK IntKind.i64 ((↑z : Int) - (1 : Int))))
              (bsplit (DB.db ((0 : Int) ≤ (↑z : Int) - (1 : Int) ∧ (↑z : Int) - (1 : Int) < (↑len : Int)))
                (bsplit (leB (g (Int.toNat (↑z : Int))) (g (Int.toNat ((↑z : Int) - (1 : Int))))) (false = ascB len g)
                  (bsplit (DB.db (inK IntKind.i64 ((↑z : Int) + (1 : Int))))
                    (∃ (z' : Nat),
                      ((((1 : Nat) ≤ z' ∧
                              (z' ≤ len ∨ z' = (1 : Nat)) ∧ ∀ (i : Nat), i + (1 : Nat) < z' → g i < g (i + (1 : Nat))) ∧
                            len - z' < len - z) ∧
                          avM (AV.xl f (1 : Nat) len fun (i x : Nat) => AV.v (Value.int IntKind.i64 (g i)))
                              (AV.xl f (1 : Nat) len fun (i x : Nat) => AV.v (Value.int IntKind.i64 (g i))) ∧
                            IntKind.i64 = IntKind.i64 ∧ (↑z : Int) + (1 : Int) = (↑z' : Int)) ∧
                        True)
                    False))
                False)
              False)
            False)
          (true = ascB len g) := by
  intro hb
  replace hb := hb.1
  refine ⟨⟨1, ⟨⟨by omega, .inr rfl, fun i hi => by omega⟩, avM_refl _, rfl, rfl⟩, trivial⟩, ?_⟩
  rintro z ⟨h1, h2, h3⟩
  simp only [vc_db, vc_lt, vc_le]
  simp only [inK]
  have hz : ((z : Int) - 1).toNat = z - 1 := by omega
  refine ⟨fun hlt => ⟨by omega, by omega, by omega, fun hle => ?_, fun hlt' => ⟨by omega, z + 1, ⟨⟨⟨by omega, by omega, fun i hi => ?_⟩, by omega⟩, avM_refl _, trivial, by omega⟩, trivial⟩⟩, fun hge => ?_⟩
  · rw [Eq.comm, Bool.eq_false_iff]
    intro h
    have := ascB_iff.1 h (z - 1) (by omega)
    rw [hz, Int.toNat_natCast] at hle
    rw [show z - 1 + 1 = z by omega] at this
    omega
  · by_cases e : i + 1 = z
    · rw [hz, Int.toNat_natCast] at hlt'
      rw [e, show i = z - 1 by omega]
      exact hlt'
    · exact h3 i (by omega)
  · rw [Eq.comm, ascB_iff]
    intro i hi
    exact h3 i (by omega)
def asc_t : List AV → Option (List Cond × AV)
  | [.xl _ 1 len els] => some ([.b (allI len els)], .b (ascB len fun i => AV.int (els i 0)))
  | _ => none
theorem asc_T : PureT Tryd.prog [] 54 asc_t := by
  intro xs ps r h hp
  unfold asc_t at h
  split at h
  · rename_i f len els
    cases h
    refine weaken (ys := [_]) ⟨allI_avM (hp _ List.mem_cons_self), trivial⟩ ?_
    exact pure_of_vc mixed tb0_sound (Eq.mp (by kernel_rfl) (asc_vc f len fun i => AV.int (els i 0)) : vcFn Tryd.prog T0 54 (asc_an len fun i => AV.int (els i 0)) [.xl f 1 len fun i _ => .i (AV.int (els i 0))] (.b (ascB len fun i => AV.int (els i 0))))
  · cases h
end Go.Td
