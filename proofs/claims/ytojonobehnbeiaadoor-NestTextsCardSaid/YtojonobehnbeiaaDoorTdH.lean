/- Contracts: Same, Great. -/
import Derived.Test.YtojonobehnbeiaaDoorTdG
namespace Go.Td
open Go Go.Sx Go.Proofs
set_option maxRecDepth 100000

theorem rdI_eq (l : List Int) : rdI (.xl false 1 l.length fun i _ => .v (.int .i64 (l.getD i Enc.dflt))) = l := listOf_getD l (0 : Int)
theorem imp_t {p : Prop} : (p → True) = True := by simp
def same_bn (l m : List Used) : Ann :=
  .two .auto (.two .auto (.two (.two .auto (.one (.loop Nat (fun σ z => [(0, σ.tm 0), (1, σ.tm 1), (5, .i z)]) (fun _ _ => []) 0
    (fun _ z => z ≤ l.length ∧ ∀ i, i < z → l.getD i Enc.dflt = m.getD i Enc.dflt) (fun _ z => l.length - z) .auto))) .auto))
theorem same_vc (l m : List Used) : bndL
    [AV.xl false (3 : Nat) (List.length l) fun (i j : Nat) => Enc.enc (List.getD l i Enc.dflt) j,
      AV.xl false (3 : Nat) (List.length m) fun (i j : Nat) => Enc.enc (List.getD m i Enc.dflt) j] →
  bsplit ((↑(List.length l) : Int) != (↑(List.length m) : Int)) (false = decide (l = m))
    ((∃ (z : Nat),
        ((z ≤ List.length l ∧ ∀ (i : Nat), i < z → List.getD l i Enc.dflt = List.getD m i Enc.dflt) ∧
            avM (AV.xl false (3 : Nat) (List.length l) fun (i j : Nat) => Enc.enc (List.getD l i Enc.dflt) j)
                (AV.xl false (3 : Nat) (List.length l) fun (i j : Nat) => Enc.enc (List.getD l i Enc.dflt) j) ∧
              avM (AV.xl false (3 : Nat) (List.length m) fun (i j : Nat) => Enc.enc (List.getD m i Enc.dflt) j)
                  (AV.xl false (3 : Nat) (List.length m) fun (i j : Nat) => Enc.enc (List.getD m i Enc.dflt) j) ∧
                IntKind.i64 = IntKind.i64 ∧ (0 : Int) = (↑z : Int)) ∧
          True) ∧
      ∀ (z : Nat),
        (z ≤ List.length l ∧ ∀ (i : Nat), i < z → List.getD l i Enc.dflt = List.getD m i Enc.dflt) →
          bsplit (ltB (↑z : Int) (↑(List.length l) : Int))
            (bsplit (DB.db ((0 : Int) ≤ (↑z : Int) ∧ (↑z : Int) < (↑(List.length l) : Int)))
              (bsplit (DB.db ((0 : Int) ≤ (↑z : Int) ∧ (↑z : Int) < (↑(List.length m) : Int)))
                (bsplit
                  (!bsel false
                        (Used.bar (List.getD l (Int.toNat (↑z : Int)) Enc.dflt) !=
                          Used.bar (List.getD m (Int.toNat (↑z : Int)) Enc.dflt)) ||
                    bsel false
                      (Used.bar (List.getD l (Int.toNat (↑z : Int)) Enc.dflt) !=
                        Used.bar (List.getD m (Int.toNat (↑z : Int)) Enc.dflt)))
                  (bsplit
                    (!bsel false
                          (Used.bar (List.getD l (Int.toNat (↑z : Int)) Enc.dflt) !=
                            Used.bar (List.getD m (Int.toNat (↑z : Int)) Enc.dflt)) ||
                      bsel false
                        (Used.bar (List.getD l (Int.toNat (↑z : Int)) Enc.dflt) !=
                          Used.bar (List.getD m (Int.toNat (↑z : Int)) Enc.dflt)))
                    (bsplit
                      (!bsel false
                            (Used.bar (List.getD l (Int.toNat (↑z : Int)) Enc.dflt) !=
                              Used.bar (List.getD m (Int.toNat (↑z : Int)) Enc.dflt)) ||
                        DB.db ((0 : Int) ≤ (↑z : Int) ∧ (↑z : Int) < (↑(List.length l) : Int)))
                      (bsplit
                        (!bsel false
                              (Used.bar (List.getD l (Int.toNat (↑z : Int)) Enc.dflt) !=
                                Used.bar (List.getD m (Int.toNat (↑z : Int)) Enc.dflt)) ||
                          bsel false
                            (Used.bar (List.getD l (Int.toNat (↑z : Int)) Enc.dflt) !=
                              Used.bar (List.getD m (Int.toNat (↑z : Int)) Enc.dflt)))
                        (bsplit
                          (!bsel false
                                (Used.bar (List.getD l (Int.toNat (↑z : Int)) Enc.dflt) !=
                                  Used.bar (List.getD m (Int.toNat (↑z : Int)) Enc.dflt)) ||
                            bsel false
                              (Used.bar (List.getD l (Int.toNat (↑z : Int)) Enc.dflt) !=
                                Used.bar (List.getD m (Int.toNat (↑z : Int)) Enc.dflt)))
                          (bsplit
                            (!bsel false
                                  (Used.bar (List.getD l (Int.toNat (↑z : Int)) Enc.dflt) !=
                                    Used.bar (List.getD m (Int.toNat (↑z : Int)) Enc.dflt)) ||
                              bsel false
                                (Used.bar (List.getD l (Int.toNat (↑z : Int)) Enc.dflt) !=
                                  Used.bar (List.getD m (Int.toNat (↑z : Int)) Enc.dflt)))
                            (bsplit
                              (!bsel false
                                    (Used.bar (List.getD l (Int.toNat (↑z : Int)) Enc.dflt) !=
                                      Used.bar (List.getD m (Int.toNat (↑z : Int)) Enc.dflt)) ||
                                bsel false
                                  (Used.bar (List.getD l (Int.toNat (↑z : Int)) Enc.dflt) !=
                                    Used.bar (List.getD m (Int.toNat (↑z : Int)) Enc.dflt)))
                              (bsplit
                                (!bsel false
                                      (Used.bar (List.getD l (Int.toNat (↑z : Int)) Enc.dflt) !=
                                        Used.bar (List.getD m (Int.toNat (↑z : Int)) Enc.dflt)) ||
                                  DB.db ((0 : Int) ≤ (↑z : Int) ∧ (↑z : Int) < (↑(List.length m) : Int)))
                                (bsplit
                                  (!bsel false
                                        (Used.bar (List.getD l (Int.toNat (↑z : Int)) Enc.dflt) !=
                                          Used.bar (List.getD m (Int.toNat (↑z : Int)) Enc.dflt)) ||
                                    bsel false
                                      (Used.bar (List.getD l (Int.toNat (↑z : Int)) Enc.dflt) !=
                                        Used.bar (List.getD m (Int.toNat (↑z : Int)) Enc.dflt)))
                                  (bsplit
                                    (!bsel false
                                          (Used.bar (List.getD l (Int.toNat (↑z : Int)) Enc.dflt) !=
                                            Used.bar (List.getD m (Int.toNat (↑z : Int)) Enc.dflt)) ||
                                      bsel false
                                        (Used.bar (List.getD l (Int.toNat (↑z : Int)) Enc.dflt) !=
                                          Used.bar (List.getD m (Int.toNat (↑z : Int)) Enc.dflt)))
                                    (bsplit
                                      (!bsel false
                                            (Used.bar (List.getD l (Int.toNat (↑z : Int)) Enc.dflt) !=
                                              Used.bar (List.getD m (Int.toNat (↑z : Int)) Enc.dflt)) ||
                                        bsel false
                                          (Used.bar (List.getD l (Int.toNat (↑z : Int)) Enc.dflt) !=
                                            Used.bar (List.getD m (Int.toNat (↑z : Int)) Enc.dflt)))
                                      (bsplit
                                        (!bsel false
                                              (Used.bar (List.getD l (Int.toNat (↑z : Int)) Enc.dflt) !=
                                                Used.bar (List.getD m (Int.toNat (↑z : Int)) Enc.dflt)) ||
                                          bsel false
                                            (Used.bar (List.getD l (Int.toNat (↑z : Int)) Enc.dflt) !=
                                              Used.bar (List.getD m (Int.toNat (↑z : Int)) Enc.dflt)))
                                        ((bsel false
                                                (Used.bar (List.getD l (Int.toNat (↑z : Int)) Enc.dflt) !=
                                                  Used.bar (List.getD m (Int.toNat (↑z : Int)) Enc.dflt)) =
                                              true →
                                            (1 : Nat) = (1 : Nat) ∧
                                              ∀ (i : Nat),
                                                i <
                                                    List.length
                                                      (Used.ps (List.getD l (Int.toNat (↑z : Int)) Enc.dflt)) →
                                                  isI64
                                                      (AV.v
                                                        (Value.int IntKind.i64
                                                          (List.getD
                                                            (Used.ps (List.getD l (Int.toNat (↑z : Int)) Enc.dflt)) i
                                                            Enc.dflt))) =
                                                    true) ∧
                                          (bsel false
                                                  (Used.bar (List.getD l (Int.toNat (↑z : Int)) Enc.dflt) !=
                                                    Used.bar (List.getD m (Int.toNat (↑z : Int)) Enc.dflt)) =
                                                true →
                                              (1 : Nat) = (1 : Nat) ∧
                                                ∀ (i : Nat),
                                                  i <
                                                      List.length
                                                        (Used.ps (List.getD m (Int.toNat (↑z : Int)) Enc.dflt)) →
                                                    isI64
                                                        (AV.v
                                                          (Value.int IntKind.i64
                                                            (List.getD
                                                              (Used.ps (List.getD m (Int.toNat (↑z : Int)) Enc.dflt)) i
                                                              Enc.dflt))) =
                                                      true) ∧
                                            bsplit
                                              (!bsel false
                                                    (Used.bar (List.getD l (Int.toNat (↑z : Int)) Enc.dflt) !=
                                                      Used.bar (List.getD m (Int.toNat (↑z : Int)) Enc.dflt)) ||
                                                bsel false
                                                  (Used.bar (List.getD l (Int.toNat (↑z : Int)) Enc.dflt) !=
                                                    Used.bar (List.getD m (Int.toNat (↑z : Int)) Enc.dflt)))
                                              (bsplit
                                                (!!Used.bar (List.getD l (Int.toNat (↑z : Int)) Enc.dflt) !=
                                                        Used.bar (List.getD m (Int.toNat (↑z : Int)) Enc.dflt) ||
                                                  bsel false
                                                    (Used.bar (List.getD l (Int.toNat (↑z : Int)) Enc.dflt) !=
                                                      Used.bar (List.getD m (Int.toNat (↑z : Int)) Enc.dflt)))
                                                (bsplit
                                                  (!bsel false
                                                        (bif
                                                            Used.bar (List.getD l (Int.toNat (↑z : Int)) Enc.dflt) !=
                                                              Used.bar
                                                                (List.getD m (Int.toNat (↑z : Int)) Enc.dflt) then
                                                          true
                                                        else
                                                          !decide
                                                              (rdI
                                                                  (AV.xl false (1 : Nat)
                                                                    (List.length
                                                                      (Used.ps
                                                                        (List.getD l (Int.toNat (↑z : Int)) Enc.dflt)))
                                                                    fun (i j : Nat) =>
                                                                    AV.v
                                                                      (Value.int IntKind.i64
                                                                        (List.getD
                                                                          (Used.ps
                                                                            (List.getD l (Int.toNat (↑z : Int))
                                                                              Enc.dflt))
                                                                          i Enc.dflt))) =
                                                                rdI
                                                                  (AV.xl false (1 : Nat)
                                                                    (List.length
                                                                      (Used.ps
                                                                        (List.getD m (Int.toNat (↑z : Int)) Enc.dflt)))
                                                                    fun (i j : Nat) =>
                                                                    AV.v
                                                                      (Value.int IntKind.i64
                                                                        (List.getD
                                                                          (Used.ps
                                                                            (List.getD m (Int.toNat (↑z : Int))
                                                                              Enc.dflt))
                                                                          i Enc.dflt))))) ||
                                                    bsel false
                                                      (bif
                                                          Used.bar (List.getD l (Int.toNat (↑z : Int)) Enc.dflt) !=
                                                            Used.bar (List.getD m (Int.toNat (↑z : Int)) Enc.dflt) then
                                                        true
                                                      else
                                                        !decide
                                                            (rdI
                                                                (AV.xl false (1 : Nat)
                                                                  (List.length
                                                                    (Used.ps
                                                                      (List.getD l (Int.toNat (↑z : Int)) Enc.dflt)))
                                                                  fun (i j : Nat) =>
                                                                  AV.v
                                                                    (Value.int IntKind.i64
                                                                      (List.getD
                                                                        (Used.ps
                                                                          (List.getD l (Int.toNat (↑z : Int)) Enc.dflt))
                                                                        i Enc.dflt))) =
                                                              rdI
                                                                (AV.xl false (1 : Nat)
                                                                  (List.length
                                                                    (Used.ps
                                                                      (List.getD m (Int.toNat (↑z : Int)) Enc.dflt)))
                                                                  fun (i j : Nat) =>
                                                                  AV.v
                                                                    (Value.int IntKind.i64
                                                                      (List.getD
                                                                        (Used.ps
                                                                          (List.getD m (Int.toNat (↑z : Int)) Enc.dflt))
                                                                        i Enc.dflt))))))
                                                  (bsplit
                                                    (!bsel false
                                                          (bif
                                                              Used.bar (List.getD l (Int.toNat (↑z : Int)) Enc.dflt) !=
                                                                Used.bar
                                                                  (List.getD m (Int.toNat (↑z : Int)) Enc.dflt) then
                                                            true
                                                          else
                                                            !decide
                                                                (rdI
                                                                    (AV.xl false (1 : Nat)
                                                                      (List.length
                                                                        (Used.ps
                                                                          (List.getD l (Int.toNat (↑z : Int))
                                                                            Enc.dflt)))
                                                                      fun (i j : Nat) =>
                                                                      AV.v
                                                                        (Value.int IntKind.i64
                                                                          (List.getD
                                                                            (Used.ps
                                                                              (List.getD l (Int.toNat (↑z : Int))
                                                                                Enc.dflt))
                                                                            i Enc.dflt))) =
                                                                  rdI
                                                                    (AV.xl false (1 : Nat)
                                                                      (List.length
                                                                        (Used.ps
                                                                          (List.getD m (Int.toNat (↑z : Int))
                                                                            Enc.dflt)))
                                                                      fun (i j : Nat) =>
                                                                      AV.v
                                                                        (Value.int IntKind.i64
                                                                          (List.getD
                                                                            (Used.ps
                                                                              (List.getD m (Int.toNat (↑z : Int))
                                                                                Enc.dflt))
                                                                            i Enc.dflt))))) ||
                                                      bsel false
                                                        (bif
                                                            Used.bar (List.getD l (Int.toNat (↑z : Int)) Enc.dflt) !=
                                                              Used.bar
                                                                (List.getD m (Int.toNat (↑z : Int)) Enc.dflt) then
                                                          true
                                                        else
                                                          !decide
                                                              (rdI
                                                                  (AV.xl false (1 : Nat)
                                                                    (List.length
                                                                      (Used.ps
                                                                        (List.getD l (Int.toNat (↑z : Int)) Enc.dflt)))
                                                                    fun (i j : Nat) =>
                                                                    AV.v
                                                                      (Value.int IntKind.i64
                                                                        (List.getD
                                                                          (Used.ps
                                                                            (List.getD l (Int.toNat (↑z : Int))
                                                                              Enc.dflt))
                                                                          i Enc.dflt))) =
                                                                rdI
                                                                  (AV.xl false (1 : Nat)
                                                                    (List.length
                                                                      (Used.ps
                                                                        (List.getD m (Int.toNat (↑z : Int)) Enc.dflt)))
                                                                    fun (i j : Nat) =>
                                                                    AV.v
                                                                      (Value.int IntKind.i64
                                                                        (List.getD
                                                                          (Used.ps
                                                                            (List.getD m (Int.toNat (↑z : Int))
                                                                              Enc.dflt))
                                                                          i Enc.dflt))))))
                                                    (bsplit
                                                      (!bsel false
                                                            (bif
                                                                Used.bar
                                                                    (List.getD l (Int.toNat (↑z : Int)) Enc.dflt) !=
                                                                  Used.bar
                                                                    (List.getD m (Int.toNat (↑z : Int)) Enc.dflt) then
                                                              true
                                                            else
                                                              !decide
                                                                  (rdI
                                                                      (AV.xl false (1 : Nat)
                                                                        (List.length
                                                                          (Used.ps
                                                                            (List.getD l (Int.toNat (↑z : Int))
                                                                              Enc.dflt)))
                                                                        fun (i j : Nat) =>
                                                                        AV.v
                                                                          (Value.int IntKind.i64
                                                                            (List.getD
                                                                              (Used.ps
                                                                                (List.getD l (Int.toNat (↑z : Int))
                                                                                  Enc.dflt))
                                                                              i Enc.dflt))) =
                                                                    rdI
                                                                      (AV.xl false (1 : Nat)
                                                                        (List.length
                                                                          (Used.ps
                                                                            (List.getD m (Int.toNat (↑z : Int))
                                                                              Enc.dflt)))
                                                                        fun (i j : Nat) =>
                                                                        AV.v
                                                                          (Value.int IntKind.i64
                                                                            (List.getD
                                                                              (Used.ps
                                                                                (List.getD m (Int.toNat (↑z : Int))
                                                                                  Enc.dflt))
                                                                              i Enc.dflt))))) ||
                                                        DB.db
                                                          ((0 : Int) ≤ (↑z : Int) ∧
                                                            (↑z : Int) < (↑(List.length l) : Int)))
                                                      (bsplit
                                                        (!bsel false
                                                              (bif
                                                                  Used.bar
                                                                      (List.getD l (Int.toNat (↑z : Int)) Enc.dflt) !=
                                                                    Used.bar
                                                                      (List.getD m (Int.toNat (↑z : Int)) Enc.dflt) then
                                                                true
                                                              else
                                                                !decide
                                                                    (rdI
                                                                        (AV.xl false (1 : Nat)
                                                                          (List.length
                                                                            (Used.ps
                                                                              (List.getD l (Int.toNat (↑z : Int))
                                                                                Enc.dflt)))
                                                                          fun (i j : Nat) =>
                                                                          AV.v
                                                                            (Value.int IntKind.i64
                                                                              (List.getD
                                                                                (Used.ps
                                                                                  (List.getD l (Int.toNat (↑z : Int))
                                                                                    Enc.dflt))
                                                                                i Enc.dflt))) =
                                                                      rdI
                                                                        (AV.xl false (1 : Nat)
                                                                          (List.length
                                                                            (Used.ps
                                                                              (List.getD m (Int.toNat (↑z : Int))
                                                                                Enc.dflt)))
                                                                          fun (i j : Nat) =>
                                                                          AV.v
                                                                            (Value.int IntKind.i64
                                                                              (List.getD
                                                                                (Used.ps
                                                                                  (List.getD m (Int.toNat (↑z : Int))
                                                                                    Enc.dflt))
                                                                                i Enc.dflt))))) ||
                                                          bsel false
                                                            (bif
                                                                Used.bar
                                                                    (List.getD l (Int.toNat (↑z : Int)) Enc.dflt) !=
                                                                  Used.bar
                                                                    (List.getD m (Int.toNat (↑z : Int)) Enc.dflt) then
                                                              true
                                                            else
                                                              !decide
                                                                  (rdI
                                                                      (AV.xl false (1 : Nat)
                                                                        (List.length
                                                                          (Used.ps
                                                                            (List.getD l (Int.toNat (↑z : Int))
                                                                              Enc.dflt)))
                                                                        fun (i j : Nat) =>
                                                                        AV.v
                                                                          (Value.int IntKind.i64
                                                                            (List.getD
                                                                              (Used.ps
                                                                                (List.getD l (Int.toNat (↑z : Int))
                                                                                  Enc.dflt))
                                                                              i Enc.dflt))) =
                                                                    rdI
                                                                      (AV.xl false (1 : Nat)
                                                                        (List.length
                                                                          (Used.ps
                                                                            (List.getD m (Int.toNat (↑z : Int))
                                                                              Enc.dflt)))
                                                                        fun (i j : Nat) =>
                                                                        AV.v
                                                                          (Value.int IntKind.i64
                                                                            (List.getD
                                                                              (Used.ps
                                                                                (List.getD m (Int.toNat (↑z : Int))
                                                                                  Enc.dflt))
                                                                              i Enc.dflt))))))
                                                        (bsplit
                                                          (!bsel false
                                                                (bif
                                                                    Used.bar
                                                                        (List.getD l (Int.toNat (↑z : Int)) Enc.dflt) !=
                                                                      Used.bar
                                                                        (List.getD m (Int.toNat (↑z : Int))
                                                                          Enc.dflt) then
                                                                  true
                                                                else
                                                                  !decide
                                                                      (rdI
                                                                          (AV.xl false (1 : Nat)
                                                                            (List.length
                                                                              (Used.ps
                                                                                (List.getD l (Int.toNat (↑z : Int))
                                                                                  Enc.dflt)))
                                                                            fun (i j : Nat) =>
                                                                            AV.v
                                                                              (Value.int IntKind.i64
                                                                                (List.getD
                                                                                  (Used.ps
                                                                                    (List.getD l (Int.toNat (↑z : Int))
                                                                                      Enc.dflt))
                                                                                  i Enc.dflt))) =
                                                                        rdI
                                                                          (AV.xl false (1 : Nat)
                                                                            (List.length
                                                                              (Used.ps
                                                                                (List.getD m (Int.toNat (↑z : Int))
                                                                                  Enc.dflt)))
                                                                            fun (i j : Nat) =>
                                                                            AV.v
                                                                              (Value.int IntKind.i64
                                                                                (List.getD
                                                                                  (Used.ps
                                                                                    (List.getD m (Int.toNat (↑z : Int))
                                                                                      Enc.dflt))
                                                                                  i Enc.dflt))))) ||
                                                            bsel false
                                                              (bif
                                                                  Used.bar
                                                                      (List.getD l (Int.toNat (↑z : Int)) Enc.dflt) !=
                                                                    Used.bar
                                                                      (List.getD m (Int.toNat (↑z : Int)) Enc.dflt) then
                                                                true
                                                              else
                                                                !decide
                                                                    (rdI
                                                                        (AV.xl false (1 : Nat)
                                                                          (List.length
                                                                            (Used.ps
                                                                              (List.getD l (Int.toNat (↑z : Int))
                                                                                Enc.dflt)))
                                                                          fun (i j : Nat) =>
                                                                          AV.v
                                                                            (Value.int IntKind.i64
                                                                              (List.getD
                                                                                (Used.ps
                                                                                  (List.getD l (Int.toNat (↑z : Int))
                                                                                    Enc.dflt))
                                                                                i Enc.dflt))) =
                                                                      rdI
                                                                        (AV.xl false (1 : Nat)
                                                                          (List.length
                                                                            (Used.ps
                                                                              (List.getD m (Int.toNat (↑z : Int))
                                                                                Enc.dflt)))
                                                                          fun (i j : Nat) =>
                                                                          AV.v
                                                                            (Value.int IntKind.i64
                                                                              (List.getD
                                                                                (Used.ps
                                                                                  (List.getD m (Int.toNat (↑z : Int))
                                                                                    Enc.dflt))
                                                                                i Enc.dflt))))))
                                                          (bsplit
                                                            (!bsel false
                                                                  (bif
                                                                      Used.bar
                                                                          (List.getD l (Int.toNat (↑z : Int))
                                                                            Enc.dflt) !=
                                                                        Used.bar
                                                                          (List.getD m (Int.toNat (↑z : Int))
                                                                            Enc.dflt) then
                                                                    true
                                                                  else
                                                                    !decide
                                                                        (rdI
                                                                            (AV.xl false (1 : Nat)
                                                                              (List.length
                                                                                (Used.ps
                                                                                  (List.getD l (Int.toNat (↑z : Int))
                                                                                    Enc.dflt)))
                                                                              fun (i j : Nat) =>
                                                                              AV.v
                                                                                (Value.int IntKind.i64
                                                                                  (List.getD
                                                                                    (Used.ps
                                                                                      (List.getD l
                                                                                        (Int.toNat (↑z : Int))
                                                                                        Enc.dflt))
                                                                                    i Enc.dflt))) =
                                                                          rdI
                                                                            (AV.xl false (1 : Nat)
                                                                              (List.length
                                                                                (Used.ps
                                                                                  (List.getD m (Int.toNat (↑z : Int))
                                                                                    Enc.dflt)))
                                                                              fun (i j : Nat) =>
                                                                              AV.v
                                                                                (Value.int IntKind.i64
                                                                                  (List.getD
                                                                                    (Used.ps
                                                                                      (List.getD m
                                                                                        (Int.toNat (↑z : Int))
                                                                                        Enc.dflt))
                                                                                    i Enc.dflt))))) ||
                                                              bsel false
                                                                (bif
                                                                    Used.bar
                                                                        (List.getD l (Int.toNat (↑z : Int)) Enc.dflt) !=
                                                                      Used.bar
                                                                        (List.getD m (Int.toNat (↑z : Int))
                                                                          Enc.dflt) then
                                                                  true
                                                                else
                                                                  !decide
                                                                      (rdI
                                                                          (AV.xl false (1 : Nat)
                                                                            (List.length
                                                                              (Used.ps
                                                                                (List.getD l (Int.toNat (↑z : Int))
                                                                                  Enc.dflt)))
                                                                            fun (i j : Nat) =>
                                                                            AV.v
                                                                              (Value.int IntKind.i64
                                                                                (List.getD
                                                                                  (Used.ps
                                                                                    (List.getD l (Int.toNat (↑z : Int))
                                                                                      Enc.dflt))
                                                                                  i Enc.dflt))) =
                                                                        rdI
                                                                          (AV.xl false (1 : Nat)
                                                                            (List.length
                                                                              (Used.ps
                                                                                (List.getD m (Int.toNat (↑z : Int))
                                                                                  Enc.dflt)))
                                                                            fun (i j : Nat) =>
                                                                            AV.v
                                                                              (Value.int IntKind.i64
                                                                                (List.getD
                                                                                  (Used.ps
                                                                                    (List.getD m (Int.toNat (↑z : Int))
                                                                                      Enc.dflt))
                                                                                  i Enc.dflt))))))
                                                            (bsplit
                                                              (!bsel false
                                                                    (bif
                                                                        Used.bar
                                                                            (List.getD l (Int.toNat (↑z : Int))
                                                                              Enc.dflt) !=
                                                                          Used.bar
                                                                            (List.getD m (Int.toNat (↑z : Int))
                                                                              Enc.dflt) then
                                                                      true
                                                                    else
                                                                      !decide
                                                                          (rdI
                                                                              (AV.xl false (1 : Nat)
                                                                                (List.length
                                                                                  (Used.ps
                                                                                    (List.getD l (Int.toNat (↑z : Int))
                                                                                      Enc.dflt)))
                                                                                fun (i j : Nat) =>
                                                                                AV.v
                                                                                  (Value.int IntKind.i64
                                                                                    (List.getD
                                                                                      (Used.ps
                                                                                        (List.getD l
                                                                                          (Int.toNat (↑z : Int))
                                                                                          Enc.dflt))
                                                                                      i Enc.dflt))) =
                                                                            rdI
                                                                              (AV.xl false (1 : Nat)
                                                                                (List.length
                                                                                  (Used.ps
                                                                                    (List.getD m (Int.toNat (↑z : Int))
                                                                                      Enc.dflt)))
                                                                                fun (i j : Nat) =>
                                                                                AV.v
                                                                                  (Value.int IntKind.i64
                                                                                    (List.getD
                                                                                      (Used.ps
                                                                                        (List.getD m
                                                                                          (Int.toNat (↑z : Int))
                                                                                          Enc.dflt))
                                                                                      i Enc.dflt))))) ||
                                                                bsel false
                                                                  (bif
                                                                      Used.bar
                                                                          (List.getD l (Int.toNat (↑z : Int))
                                                                            Enc.dflt) !=
                                                                        Used.bar
                                                                          (List.getD m (Int.toNat (↑z : Int))
                                                                            Enc.dflt) then
                                                                    true
                                                                  else
                                                                    !decide
                                                                        (rdI
                                                                            (AV.xl false (1 : Nat)
                                                                              (List.length
                                                                                (Used.ps
                                                                                  (List.getD l (Int.toNat (↑z : Int))
                                                                                    Enc.dflt)))
                                                                              fun (i j : Nat) =>
                                                                              AV.v
                                                                                (Value.int IntKind.i64
                                                                                  (List.getD
                                                                                    (Used.ps
                                                                                      (List.getD l
                                                                                        (Int.toNat (↑z : Int))
                                                                                        Enc.dflt))
                                                                                    i Enc.dflt))) =
                                                                          rdI
                                                                            (AV.xl false (1 : Nat)
                                                                              (List.length
                                                                                (Used.ps
                                                                                  (List.getD m (Int.toNat (↑z : Int))
                                                                                    Enc.dflt)))
                                                                              fun (i j : Nat) =>
                                                                              AV.v
                                                                                (Value.int IntKind.i64
                                                                                  (List.getD
                                                                                    (Used.ps
                                                                                      (List.getD m
                                                                                        (Int.toNat (↑z : Int))
                                                                                        Enc.dflt))
                                                                                    i Enc.dflt))))))
                                                              (bsplit
                                                                (!bsel false
                                                                      (bif
                                                                          Used.bar
                                                                              (List.getD l (Int.toNat (↑z : Int))
                                                                                Enc.dflt) !=
                                                                            Used.bar
                                                                              (List.getD m (Int.toNat (↑z : Int))
                                                                                Enc.dflt) then
                                                                        true
                                                                      else
                                                                        !decide
                                                                            (rdI
                                                                                (AV.xl false (1 : Nat)
                                                                                  (List.length
                                                                                    (Used.ps
                                                                                      (List.getD l
                                                                                        (Int.toNat (↑z : Int))
                                                                                        Enc.dflt)))
                                                                                  fun (i j : Nat) =>
                                                                                  AV.v
                                                                                    (Value.int IntKind.i64
                                                                                      (List.getD
                                                                                        (Used.ps
                                                                                          (List.getD l
                                                                                            (Int.toNat (↑z : Int))
                                                                                            Enc.dflt))
                                                                                        i Enc.dflt))) =
                                                                              rdI
                                                                                (AV.xl false (1 : Nat)
                                                                                  (List.length
                                                                                    (Used.ps
                                                                                      (List.getD m
                                                                                        (Int.toNat (↑z : Int))
                                                                                        Enc.dflt)))
                                                                                  fun (i j : Nat) =>
                                                                                  AV.v
                                                                                    (Value.int IntKind.i64
                                                                                      (List.getD
                                                                                        (Used.ps
                                                                                          (List.getD m
                                                                                            (Int.toNat (↑z : Int))
                                                                                            Enc.dflt))
                                                                                        i Enc.dflt))))) ||
                                                                  DB.db
                                                                    ((0 : Int) ≤ (↑z : Int) ∧
                                                                      (↑z : Int) < (↑(List.length m) : Int)))
                                                                (bsplit
                                                                  (!bsel false
                                                                        (bif
                                                                            Used.bar
                                                                                (List.getD l (Int.toNat (↑z : Int))
                                                                                  Enc.dflt) !=
                                                                              Used.bar
                                                                                (List.getD m (Int.toNat (↑z : Int))
                                                                                  Enc.dflt) then
                                                                          true
                                                                        else
                                                                          !decide
                                                                              (rdI
                                                                                  (AV.xl false (1 : Nat)
                                                                                    (List.length
                                                                                      (Used.ps
                                                                                        (List.getD l
                                                                                          (Int.toNat (↑z : Int))
                                                                                          Enc.dflt)))
                                                                                    fun (i j : Nat) =>
                                                                                    AV.v
                                                                                      (Value.int IntKind.i64
                                                                                        (List.getD
                                                                                          (Used.ps
                                                                                            (List.getD l
                                                                                              (Int.toNat (↑z : Int))
                                                                                              Enc.dflt))
                                                                                          i Enc.dflt))) =
                                                                                rdI
                                                                                  (AV.xl false (1 : Nat)
                                                                                    (List.length
                                                                                      (Used.ps
                                                                                        (List.getD m
                                                                                          (Int.toNat (↑z : Int))
                                                                                          Enc.dflt)))
                                                                                    fun (i j : Nat) =>
                                                                                    AV.v
                                                                                      (Value.int IntKind.i64
                                                                                        (List.getD
                                                                                          (Used.ps
                                                                                            (List.getD m
                                                                                              (Int.toNat (↑z : Int))
                                                                                              Enc.dflt))
                                                                                          i Enc.dflt))))) ||
                                                                    bsel false
                                                                      (bif
                                                                          Used.bar
                                                                              (List.getD l (Int.toNat (↑z : Int))
                                                                                Enc.dflt) !=
                                                                            Used.bar
                                                                              (List.getD m (Int.toNat (↑z : Int))
                                                                                Enc.dflt) then
                                                                        true
                                                                      else
                                                                        !decide
                                                                            (rdI
                                                                                (AV.xl false (1 : Nat)
                                                                                  (List.length
                                                                                    (Used.ps
                                                                                      (List.getD l
                                                                                        (Int.toNat (↑z : Int))
                                                                                        Enc.dflt)))
                                                                                  fun (i j : Nat) =>
                                                                                  AV.v
                                                                                    (Value.int IntKind.i64
                                                                                      (List.getD
                                                                                        (Used.ps
                                                                                          (List.getD l
                                                                                            (Int.toNat (↑z : Int))
                                                                                            Enc.dflt))
                                                                                        i Enc.dflt))) =
                                                                              rdI
                                                                                (AV.xl false (1 : Nat)
                                                                                  (List.length
                                                                                    (Used.ps
                                                                                      (List.getD m
                                                                                        (Int.toNat (↑z : Int))
                                                                                        Enc.dflt)))
                                                                                  fun (i j : Nat) =>
                                                                                  AV.v
                                                                                    (Value.int IntKind.i64
                                                                                      (List.getD
                                                                                        (Used.ps
                                                                                          (List.getD m
                                                                                            (Int.toNat (↑z : Int))
                                                                                            Enc.dflt))
                                                                                        i Enc.dflt))))))
                                                                  (bsplit
                                                                    (!bsel false
                                                                          (bif
                                                                              Used.bar
                                                                                  (List.getD l (Int.toNat (↑z : Int))
                                                                                    Enc.dflt) !=
                                                                                Used.bar
                                                                                  (List.getD m (Int.toNat (↑z : Int))
                                                                                    Enc.dflt) then
                                                                            true
                                                                          else
                                                                            !decide
                                                                                (rdI
                                                                                    (AV.xl false (1 : Nat)
                                                                                      (List.length
                                                                                        (Used.ps
                                                                                          (List.getD l
                                                                                            (Int.toNat (↑z : Int))
                                                                                            Enc.dflt)))
                                                                                      fun (i j : Nat) =>
                                                                                      AV.v
                                                                                        (Value.int IntKind.i64
                                                                                          (List.getD
                                                                                            (Used.ps
                                                                                              (List.getD l
                                                                                                (Int.toNat (↑z : Int))
                                                                                                Enc.dflt))
                                                                                            i Enc.dflt))) =
                                                                                  rdI
                                                                                    (AV.xl false (1 : Nat)
                                                                                      (List.length
                                                                                        (Used.ps
                                                                                          (List.getD m
                                                                                            (Int.toNat (↑z : Int))
                                                                                            Enc.dflt)))
                                                                                      fun (i j : Nat) =>
                                                                                      AV.v
                                                                                        (Value.int IntKind.i64
                                                                                          (List.getD
                                                                                            (Used.ps
                                                                                              (List.getD m
                                                                                                (Int.toNat (↑z : Int))
                                                                                                Enc.dflt))
                                                                                            i Enc.dflt))))) ||
                                                                      bsel false
                                                                        (bif
                                                                            Used.bar
                                                                                (List.getD l (Int.toNat (↑z : Int))
                                                                                  Enc.dflt) !=
                                                                              Used.bar
                                                                                (List.getD m (Int.toNat (↑z : Int))
                                                                                  Enc.dflt) then
                                                                          true
                                                                        else
                                                                          !decide
                                                                              (rdI
                                                                                  (AV.xl false (1 : Nat)
                                                                                    (List.length
                                                                                      (Used.ps
                                                                                        (List.getD l
                                                                                          (Int.toNat (↑z : Int))
                                                                                          Enc.dflt)))
                                                                                    fun (i j : Nat) =>
                                                                                    AV.v
                                                                                      (Value.int IntKind.i64
                                                                                        (List.getD
                                                                                          (Used.ps
                                                                                            (List.getD l
                                                                                              (Int.toNat (↑z : Int))
                                                                                              Enc.dflt))
                                                                                          i Enc.dflt))) =
                                                                                rdI
                                                                                  (AV.xl false (1 : Nat)
                                                                                    (List.length
                                                                                      (Used.ps
                                                                                        (List.getD m
                                                                                          (Int.toNat (↑z : Int))
                                                                                          Enc.dflt)))
                                                                                    fun (i j : Nat) =>
                                                                                    AV.v
                                                                                      (Value.int IntKind.i64
                                                                                        (List.getD
                                                                                          (Used.ps
                                                                                            (List.getD m
                                                                                              (Int.toNat (↑z : Int))
                                                                                              Enc.dflt))
                                                                                          i Enc.dflt))))))
                                                                    (bsplit
                                                                      (!bsel false
                                                                            (bif
                                                                                Used.bar
                                                                                    (List.getD l (Int.toNat (↑z : Int))
                                                                                      Enc.dflt) !=
                                                                                  Used.bar
                                                                                    (List.getD m (Int.toNat (↑z : Int))
                                                                                      Enc.dflt) then
                                                                              true
                                                                            else
                                                                              !decide
                                                                                  (rdI
                                                                                      (AV.xl false (1 : Nat)
                                                                                        (List.length
                                                                                          (Used.ps
                                                                                            (List.getD l
                                                                                              (Int.toNat (↑z : Int))
                                                                                              Enc.dflt)))
                                                                                        fun (i j : Nat) =>
                                                                                        AV.v
                                                                                          (Value.int IntKind.i64
                                                                                            (List.getD
                                                                                              (Used.ps
                                                                                                (List.getD l
                                                                                                  (Int.toNat (↑z : Int))
                                                                                                  Enc.dflt))
                                                                                              i Enc.dflt))) =
                                                                                    rdI
                                                                                      (AV.xl false (1 : Nat)
                                                                                        (List.length
                                                                                          (Used.ps
                                                                                            (List.getD m
                                                                                              (Int.toNat (↑z : Int))
                                                                                              Enc.dflt)))
                                                                                        fun (i j : Nat) =>
                                                                                        AV.v
                                                                                          (Value.int IntKind.i64
                                                                                            (List.getD
                                                                                              (Used.ps
                                                                                                (List.getD m
                                                                                                  (Int.toNat (↑z : Int))
                                                                                                  Enc.dflt))
                                                                                              i Enc.dflt))))) ||
                                                                        bsel false
                                                                          (bif
                                                                              Used.bar
                                                                                  (List.getD l (Int.toNat (↑z : Int))
                                                                                    Enc.dflt) !=
                                                                                Used.bar
                                                                                  (List.getD m (Int.toNat (↑z : Int))
                                                                                    Enc.dflt) then
                                                                            true
                                                                          else
                                                                            !decide
                                                                                (rdI
                                                                                    (AV.xl false (1 : Nat)
                                                                                      (List.length
                                                                                        (Used.ps
                                                                                          (List.getD l
                                                                                            (Int.toNat (↑z : Int))
                                                                                            Enc.dflt)))
                                                                                      fun (i j : Nat) =>
                                                                                      AV.v
                                                                                        (Value.int IntKind.i64
                                                                                          (List.getD
                                                                                            (Used.ps
                                                                                              (List.getD l
                                                                                                (Int.toNat (↑z : Int))
                                                                                                Enc.dflt))
                                                                                            i Enc.dflt))) =
                                                                                  rdI
                                                                                    (AV.xl false (1 : Nat)
                                                                                      (List.length
                                                                                        (Used.ps
                                                                                          (List.getD m
                                                                                            (Int.toNat (↑z : Int))
                                                                                            Enc.dflt)))
                                                                                      fun (i j : Nat) =>
                                                                                      AV.v
                                                                                        (Value.int IntKind.i64
                                                                                          (List.getD
                                                                                            (Used.ps
                                                                                              (List.getD m
                                                                                                (Int.toNat (↑z : Int))
                                                                                                Enc.dflt))
                                                                                            i Enc.dflt))))))
                                                                      (bsplit
                                                                        (!bsel false
                                                                              (bif
                                                                                  Used.bar
                                                                                      (List.getD l
                                                                                        (Int.toNat (↑z : Int))
                                                                                        Enc.dflt) !=
                                                                                    Used.bar
                                                                                      (List.getD m
                                                                                        (Int.toNat (↑z : Int))
                                                                                        Enc.dflt) then
                                                                                true
                                                                              else
                                                                                !decide
                                                                                    (rdI
                                                                                        (AV.xl false (1 : Nat)
                                                                                          (List.length
                                                                                            (Used.ps
                                                                                              (List.getD l
                                                                                                (Int.toNat (↑z : Int))
                                                                                                Enc.dflt)))
                                                                                          fun (i j : Nat) =>
                                                                                          AV.v
                                                                                            (Value.int IntKind.i64
                                                                                              (List.getD
                                                                                                (Used.ps
                                                                                                  (List.getD l
                                                                                                    (Int.toNat
                                                                                                      (↑z : Int))
                                                                                                    Enc.dflt))
                                                                                                i Enc.dflt))) =
                                                                                      rdI
                                                                                        (AV.xl false (1 : Nat)
                                                                                          (List.length
                                                                                            (Used.ps
                                                                                              (List.getD m
                                                                                                (Int.toNat (↑z : Int))
                                                                                                Enc.dflt)))
                                                                                          fun (i j : Nat) =>
                                                                                          AV.v
                                                                                            (Value.int IntKind.i64
                                                                                              (List.getD
                                                                                                (Used.ps
                                                                                                  (List.getD m
                                                                                                    (Int.toNat
                                                                                                      (↑z : Int))
                                                                                                    Enc.dflt))
                                                                                                i Enc.dflt))))) ||
                                                                          bsel false
                                                                            (bif
                                                                                Used.bar
                                                                                    (List.getD l (Int.toNat (↑z : Int))
                                                                                      Enc.dflt) !=
                                                                                  Used.bar
                                                                                    (List.getD m (Int.toNat (↑z : Int))
                                                                                      Enc.dflt) then
                                                                              true
                                                                            else
                                                                              !decide
                                                                                  (rdI
                                                                                      (AV.xl false (1 : Nat)
                                                                                        (List.length
                                                                                          (Used.ps
                                                                                            (List.getD l
                                                                                              (Int.toNat (↑z : Int))
                                                                                              Enc.dflt)))
                                                                                        fun (i j : Nat) =>
                                                                                        AV.v
                                                                                          (Value.int IntKind.i64
                                                                                            (List.getD
                                                                                              (Used.ps
                                                                                                (List.getD l
                                                                                                  (Int.toNat (↑z : Int))
                                                                                                  Enc.dflt))
                                                                                              i Enc.dflt))) =
                                                                                    rdI
                                                                                      (AV.xl false (1 : Nat)
                                                                                        (List.length
                                                                                          (Used.ps
                                                                                            (List.getD m
                                                                                              (Int.toNat (↑z : Int))
                                                                                              Enc.dflt)))
                                                                                        fun (i j : Nat) =>
                                                                                        AV.v
                                                                                          (Value.int IntKind.i64
                                                                                            (List.getD
                                                                                              (Used.ps
                                                                                                (List.getD m
                                                                                                  (Int.toNat (↑z : Int))
                                                                                                  Enc.dflt))
                                                                                              i Enc.dflt))))))
                                                                        ((bsel false
                                                                                (bif
                                                                                    Used.bar
                                                                                        (List.getD l
                                                                                          (Int.toNat (↑z : Int))
                                                                                          Enc.dflt) !=
                                                                                      Used.bar
                                                                                        (List.getD m
                                                                                          (Int.toNat (↑z : Int))
                                                                                          Enc.dflt) then
                                                                                  true
                                                                                else
                                                                                  !decide
                                                                                      (rdI
                                                                                          (AV.xl false (1 : Nat)
                                                                                            (List.length
                                                                                              (Used.ps
                                                                                                (List.getD l
                                                                                                  (Int.toNat (↑z : Int))
                                                                                                  Enc.dflt)))
                                                                                            fun (i j : Nat) =>
                                                                                            AV.v
                                                                                              (Value.int IntKind.i64
                                                                                                (List.getD
                                                                                                  (Used.ps
                                                                                                    (List.getD l
                                                                                                      (Int.toNat
                                                                                                        (↑z : Int))
                                                                                                      Enc.dflt))
                                                                                                  i Enc.dflt))) =
                                                                                        rdI
                                                                                          (AV.xl false (1 : Nat)
                                                                                            (List.length
                                                                                              (Used.ps
                                                                                                (List.getD m
                                                                                                  (Int.toNat (↑z : Int))
                                                                                                  Enc.dflt)))
                                                                                            fun (i j : Nat) =>
                                                                                            AV.v
                                                                                              (Value.int IntKind.i64
                                                                                                (List.getD
                                                                                                  (Used.ps
                                                                                                    (List.getD m
                                                                                                      (Int.toNat
                                                                                                        (↑z : Int))
                                                                                                      Enc.dflt))
                                                                                                  i Enc.dflt))))) =
                                                                              true →
                                                                            (1 : Nat) = (1 : Nat) ∧
                                                                              ∀ (i : Nat),
                                                                                i <
                                                                                    List.length
                                                                                      (Used.at_
                                                                                        (List.getD l
                                                                                          (Int.toNat (↑z : Int))
                                                                                          Enc.dflt)) →
                                                                                  isI64
                                                                                      (AV.v
                                                                                        (Value.int IntKind.i64
                                                                                          (List.getD
                                                                                            (Used.at_
                                                                                              (List.getD l
                                                                                                (Int.toNat (↑z : Int))
                                                                                                Enc.dflt))
                                                                                            i Enc.dflt))) =
                                                                                    true) ∧
                                                                          (bsel false
                                                                                  (bif
                                                                                      Used.bar
                                                                                          (List.getD l
                                                                                            (Int.toNat (↑z : Int))
                                                                                            Enc.dflt) !=
                                                                                        Used.bar
                                                                                          (List.getD m
                                                                                            (Int.toNat (↑z : Int))
                                                                                            Enc.dflt) then
                                                                                    true
                                                                                  else
                                                                                    !decide
                                                                                        (rdI
                                                                                            (AV.xl false (1 : Nat)
                                                                                              (List.length
                                                                                                (Used.ps
                                                                                                  (List.getD l
                                                                                                    (Int.toNat
                                                                                                      (↑z : Int))
                                                                                                    Enc.dflt)))
                                                                                              fun (i j : Nat) =>
                                                                                              AV.v
                                                                                                (Value.int IntKind.i64
                                                                                                  (List.getD
                                                                                                    (Used.ps
                                                                                                      (List.getD l
                                                                                                        (Int.toNat
                                                                                                          (↑z : Int))
                                                                                                        Enc.dflt))
                                                                                                    i Enc.dflt))) =
                                                                                          rdI
                                                                                            (AV.xl false (1 : Nat)
                                                                                              (List.length
                                                                                                (Used.ps
                                                                                                  (List.getD m
                                                                                                    (Int.toNat
                                                                                                      (↑z : Int))
                                                                                                    Enc.dflt)))
                                                                                              fun (i j : Nat) =>
                                                                                              AV.v
                                                                                                (Value.int IntKind.i64
                                                                                                  (List.getD
                                                                                                    (Used.ps
                                                                                                      (List.getD m
                                                                                                        (Int.toNat
                                                                                                          (↑z : Int))
                                                                                                        Enc.dflt))
                                                                                                    i Enc.dflt))))) =
                                                                                true →
                                                                              (1 : Nat) = (1 : Nat) ∧
                                                                                ∀ (i : Nat),
                                                                                  i <
                                                                                      List.length
                                                                                        (Used.at_
                                                                                          (List.getD m
                                                                                            (Int.toNat (↑z : Int))
                                                                                            Enc.dflt)) →
                                                                                    isI64
                                                                                        (AV.v
                                                                                          (Value.int IntKind.i64
                                                                                            (List.getD
                                                                                              (Used.at_
                                                                                                (List.getD m
                                                                                                  (Int.toNat (↑z : Int))
                                                                                                  Enc.dflt))
                                                                                              i Enc.dflt))) =
                                                                                      true) ∧
                                                                            bsplit
                                                                              (!bsel false
                                                                                    (bif
                                                                                        Used.bar
                                                                                            (List.getD l
                                                                                              (Int.toNat (↑z : Int))
                                                                                              Enc.dflt) !=
                                                                                          Used.bar
                                                                                            (List.getD m
                                                                                              (Int.toNat (↑z : Int))
                                                                                              Enc.dflt) then
                                                                                      true
                                                                                    else
                                                                                      !decide
                                                                                          (rdI
                                                                                              (AV.xl false (1 : Nat)
                                                                                                (List.length
                                                                                                  (Used.ps
                                                                                                    (List.getD l
                                                                                                      (Int.toNat
                                                                                                        (↑z : Int))
                                                                                                      Enc.dflt)))
                                                                                                fun (i j : Nat) =>
                                                                                                AV.v
                                                                                                  (Value.int IntKind.i64
                                                                                                    (List.getD
                                                                                                      (Used.ps
                                                                                                        (List.getD l
                                                                                                          (Int.toNat
                                                                                                            (↑z : Int))
                                                                                                          Enc.dflt))
                                                                                                      i Enc.dflt))) =
                                                                                            rdI
                                                                                              (AV.xl false (1 : Nat)
                                                                                                (List.length
                                                                                                  (Used.ps
                                                                                                    (List.getD m
                                                                                                      (Int.toNat
                                                                                                        (↑z : Int))
                                                                                                      Enc.dflt)))
                                                                                                fun (i j : Nat) =>
                                                                                                AV.v
                                                                                                  (Value.int IntKind.i64
                                                                                                    (List.getD
                                                                                                      (Used.ps
                                                                                                        (List.getD m
                                                                                                          (Int.toNat
                                                                                                            (↑z : Int))
                                                                                                          Enc.dflt))
                                                                                                      i Enc.dflt))))) ||
                                                                                bsel false
                                                                                  (bif
                                                                                      Used.bar
                                                                                          (List.getD l
                                                                                            (Int.toNat (↑z : Int))
                                                                                            Enc.dflt) !=
                                                                                        Used.bar
                                                                                          (List.getD m
                                                                                            (Int.toNat (↑z : Int))
                                                                                            Enc.dflt) then
                                                                                    true
                                                                                  else
                                                                                    !decide
                                                                                        (rdI
                                                                                            (AV.xl false (1 : Nat)
                                                                                              (List.length
                                                                                                (Used.ps
                                                                                                  (List.getD l
                                                                                                    (Int.toNat
                                                                                                      (↑z : Int))
                                                                                                    Enc.dflt)))
                                                                                              fun (i j : Nat) =>
                                                                                              AV.v
                                                                                                (Value.int IntKind.i64
                                                                                                  (List.getD
                                                                                                    (Used.ps
                                                                                                      (List.getD l
                                                                                                        (Int.toNat
                                                                                                          (↑z : Int))
                                                                                                        Enc.dflt))
                                                                                                    i Enc.dflt))) =
                                                                                          rdI
                                                                                            (AV.xl false (1 : Nat)
                                                                                              (List.length
                                                                                                (Used.ps
                                                                                                  (List.getD m
                                                                                                    (Int.toNat
                                                                                                      (↑z : Int))
                                                                                                    Enc.dflt)))
                                                                                              fun (i j : Nat) =>
                                                                                              AV.v
                                                                                                (Value.int IntKind.i64
                                                                                                  (List.getD
                                                                                                    (Used.ps
                                                                                                      (List.getD m
                                                                                                        (Int.toNat
                                                                                                          (↑z : Int))
                                                                                                        Enc.dflt))
                                                                                                    i Enc.dflt))))))
                                                                              (bsplit
                                                                                ((!!bif
                                                                                          Used.bar
                                                                                              (List.getD l
                                                                                                (Int.toNat (↑z : Int))
                                                                                                Enc.dflt) !=
                                                                                            Used.bar
                                                                                              (List.getD m
                                                                                                (Int.toNat (↑z : Int))
                                                                                                Enc.dflt) then
                                                                                        true
                                                                                      else
                                                                                        !decide
                                                                                            (rdI
                                                                                                (AV.xl false (1 : Nat)
                                                                                                  (List.length
                                                                                                    (Used.ps
                                                                                                      (List.getD l
                                                                                                        (Int.toNat
                                                                                                          (↑z : Int))
                                                                                                        Enc.dflt)))
                                                                                                  fun (i j : Nat) =>
                                                                                                  AV.v
                                                                                                    (Value.int
                                                                                                      IntKind.i64
                                                                                                      (List.getD
                                                                                                        (Used.ps
                                                                                                          (List.getD l
                                                                                                            (Int.toNat
                                                                                                              (↑z :
                                                                                                                Int))
                                                                                                            Enc.dflt))
                                                                                                        i Enc.dflt))) =
                                                                                              rdI
                                                                                                (AV.xl false (1 : Nat)
                                                                                                  (List.length
                                                                                                    (Used.ps
                                                                                                      (List.getD m
                                                                                                        (Int.toNat
                                                                                                          (↑z : Int))
                                                                                                        Enc.dflt)))
                                                                                                  fun (i j : Nat) =>
                                                                                                  AV.v
                                                                                                    (Value.int
                                                                                                      IntKind.i64
                                                                                                      (List.getD
                                                                                                        (Used.ps
                                                                                                          (List.getD m
                                                                                                            (Int.toNat
                                                                                                              (↑z :
                                                                                                                Int))
                                                                                                            Enc.dflt))
                                                                                                        i
                                                                                                        Enc.dflt))))) ||
                                                                                  bsel false
                                                                                    (bif
                                                                                        Used.bar
                                                                                            (List.getD l
                                                                                              (Int.toNat (↑z : Int))
                                                                                              Enc.dflt) !=
                                                                                          Used.bar
                                                                                            (List.getD m
                                                                                              (Int.toNat (↑z : Int))
                                                                                              Enc.dflt) then
                                                                                      true
                                                                                    else
                                                                                      !decide
                                                                                          (rdI
                                                                                              (AV.xl false (1 : Nat)
                                                                                                (List.length
                                                                                                  (Used.ps
                                                                                                    (List.getD l
                                                                                                      (Int.toNat
                                                                                                        (↑z : Int))
                                                                                                      Enc.dflt)))
                                                                                                fun (i j : Nat) =>
                                                                                                AV.v
                                                                                                  (Value.int IntKind.i64
                                                                                                    (List.getD
                                                                                                      (Used.ps
                                                                                                        (List.getD l
                                                                                                          (Int.toNat
                                                                                                            (↑z : Int))
                                                                                                          Enc.dflt))
                                                                                                      i Enc.dflt))) =
                                                                                            rdI
                                                                                              (AV.xl false (1 : Nat)
                                                                                                (List.length
                                                                                                  (Used.ps
                                                                                                    (List.getD m
                                                                                                      (Int.toNat
                                                                                                        (↑z : Int))
                                                                                                      Enc.dflt)))
                                                                                                fun (i j : Nat) =>
                                                                                                AV.v
                                                                                                  (Value.int IntKind.i64
                                                                                                    (List.getD
                                                                                                      (Used.ps
                                                                                                        (List.getD m
                                                                                                          (Int.toNat
                                                                                                            (↑z : Int))
                                                                                                          Enc.dflt))
                                                                                                      i Enc.dflt))))))
                                                                                (bsplit
                                                                                  (bif
                                                                                      bif
                                                                                          Used.bar
                                                                                              (List.getD l
                                                                                                (Int.toNat (↑z : Int))
                                                                                                Enc.dflt) !=
                                                                                            Used.bar
                                                                                              (List.getD m
                                                                                                (Int.toNat (↑z : Int))
                                                                                                Enc.dflt) then
                                                                                        true
                                                                                      else
                                                                                        !decide
                                                                                            (rdI
                                                                                                (AV.xl false (1 : Nat)
                                                                                                  (List.length
                                                                                                    (Used.ps
                                                                                                      (List.getD l
                                                                                                        (Int.toNat
                                                                                                          (↑z : Int))
                                                                                                        Enc.dflt)))
                                                                                                  fun (i j : Nat) =>
                                                                                                  AV.v
                                                                                                    (Value.int
                                                                                                      IntKind.i64
                                                                                                      (List.getD
                                                                                                        (Used.ps
                                                                                                          (List.getD l
                                                                                                            (Int.toNat
                                                                                                              (↑z :
                                                                                                                Int))
                                                                                                            Enc.dflt))
                                                                                                        i Enc.dflt))) =
                                                                                              rdI
                                                                                                (AV.xl false (1 : Nat)
                                                                                                  (List.length
                                                                                                    (Used.ps
                                                                                                      (List.getD m
                                                                                                        (Int.toNat
                                                                                                          (↑z : Int))
                                                                                                        Enc.dflt)))
                                                                                                  fun (i j : Nat) =>
                                                                                                  AV.v
                                                                                                    (Value.int
                                                                                                      IntKind.i64
                                                                                                      (List.getD
                                                                                                        (Used.ps
                                                                                                          (List.getD m
                                                                                                            (Int.toNat
                                                                                                              (↑z :
                                                                                                                Int))
                                                                                                            Enc.dflt))
                                                                                                        i
                                                                                                        Enc.dflt)))) then
                                                                                    true
                                                                                  else
                                                                                    !decide
                                                                                        (rdI
                                                                                            (AV.xl false (1 : Nat)
                                                                                              (List.length
                                                                                                (Used.at_
                                                                                                  (List.getD l
                                                                                                    (Int.toNat
                                                                                                      (↑z : Int))
                                                                                                    Enc.dflt)))
                                                                                              fun (i j : Nat) =>
                                                                                              AV.v
                                                                                                (Value.int IntKind.i64
                                                                                                  (List.getD
                                                                                                    (Used.at_
                                                                                                      (List.getD l
                                                                                                        (Int.toNat
                                                                                                          (↑z : Int))
                                                                                                        Enc.dflt))
                                                                                                    i Enc.dflt))) =
                                                                                          rdI
                                                                                            (AV.xl false (1 : Nat)
                                                                                              (List.length
                                                                                                (Used.at_
                                                                                                  (List.getD m
                                                                                                    (Int.toNat
                                                                                                      (↑z : Int))
                                                                                                    Enc.dflt)))
                                                                                              fun (i j : Nat) =>
                                                                                              AV.v
                                                                                                (Value.int IntKind.i64
                                                                                                  (List.getD
                                                                                                    (Used.at_
                                                                                                      (List.getD m
                                                                                                        (Int.toNat
                                                                                                          (↑z : Int))
                                                                                                        Enc.dflt))
                                                                                                    i Enc.dflt)))))
                                                                                  (false = decide (l = m))
                                                                                  (bsplit
                                                                                    (DB.db
                                                                                      (inK IntKind.i64
                                                                                        ((↑z : Int) + (1 : Int))))
                                                                                    (∃ (z' : Nat),
                                                                                      (((z' ≤ List.length l ∧
                                                                                              ∀ (i : Nat),
                                                                                                i < z' →
                                                                                                  List.getD l i
                                                                                                      Enc.dflt =
                                                                                                    List.getD m i
                                                                                                      Enc.dflt) ∧
                                                                                            List.length l - z' <
                                                                                              List.length l - z) ∧
                                                                                          avM
                                                                                              (AV.xl false (3 : Nat)
                                                                                                (List.length l)
                                                                                                fun (i j : Nat) =>
                                                                                                Enc.enc
                                                                                                  (List.getD l i
                                                                                                    Enc.dflt)
                                                                                                  j)
                                                                                              (AV.xl false (3 : Nat)
                                                                                                (List.length l)
                                                                                                fun (i j : Nat) =>
                                                                                                Enc.enc
                                                                                                  (List.getD l i
                                                                                                    Enc.dflt)
                                                                                                  j) ∧
                                                                                            avM
                                                                                                (AV.xl false (3 : Nat)
                                                                                                  (List.length m)
                                                                                                  fun (i j : Nat) =>
                                                                                                  Enc.enc
                                                                                                    (List.getD m i
                                                                                                      Enc.dflt)
                                                                                                    j)
                                                                                                (AV.xl false (3 : Nat)
                                                                                                  (List.length m)
                                                                                                  fun (i j : Nat) =>
                                                                                                  Enc.enc
                                                                                                    (List.getD m i
                                                                                                      Enc.dflt)
                                                                                                    j) ∧
                                                                                              IntKind.i64 =
                                                                                                  IntKind.i64 ∧
                                                                                                (↑z : Int) + (1 : Int) =
                                                                                                  (↑z' : Int)) ∧
                                                                                        True)
                                                                                    False))
                                                                                False)
                                                                              False)
                                                                        False)
                                                                      False)
                                                                    False)
                                                                  False)
                                                                False)
                                                              False)
                                                            False)
                                                          False)
                                                        False)
                                                      False)
                                                    False)
                                                  False)
                                                False)
                                              False)
                                        False)
                                      False)
                                    False)
                                  False)
                                False)
                              False)
                            False)
                          False)
                        False)
                      False)
                    False)
                  False)
                False)
              False)
            (true = decide (l = m))) := by
  intro hb
  simp only [bsel_true, bsel_false, vc_own, bif_or, bif_and, vc_gdb, vc_db, vc_lt, vc_ne, Int.toNat_natCast, avM_refl, true_and, and_true, rdI_eq, isI64, implies_true]
  have hl : l.length ≤ 9223372036854775807 := hb.1.1
  refine ⟨fun hne => ?_, fun heq => ⟨⟨0, ⟨by omega, fun i hi => by omega⟩, rfl⟩, fun z ⟨h1, h2⟩ => ⟨fun hz => ⟨⟨by omega, by omega⟩, ⟨by omega, by omega⟩, fun _ => ⟨by omega, by omega⟩, fun _ => ⟨by omega, by omega⟩, fun _ => ⟨by omega, by omega⟩, fun _ => ⟨by omega, by omega⟩,
    bsplit_iff.2 ⟨fun ht => ?_, fun hf => ⟨by simp only [inK]; omega, z + 1, ⟨⟨by omega, fun i hi => ?_⟩, by omega⟩, by omega⟩⟩⟩, fun hz => ?_⟩⟩⟩
  · rw [Eq.comm, decide_eq_false_iff_not]
    rintro rfl
    exact hne rfl
  · rw [Eq.comm, decide_eq_false_iff_not]
    rintro rfl
    simp at ht
  · by_cases e : i = z
    · subst e
      simp only [Bool.or_eq_false_iff, bne_eq_false_iff_eq, Bool.not_eq_false', decide_eq_true_eq] at hf
      obtain ⟨⟨f1, f2⟩, f3⟩ := hf
      generalize l.getD i Enc.dflt = x at *
      generalize m.getD i Enc.dflt = y at *
      cases x; cases y
      simp_all
    · exact h2 i (by omega)
  · rw [Eq.comm, decide_eq_true_eq]
    apply List.ext_getElem (by omega)
    intro i h3 h4
    have := h2 i (by omega)
    simpa [List.getD_eq_getElem?_getD, h3, h4] using this
def gBad (u : Used) : Bool := (ltB 8 (u.ps.length : Int) && leB (u.ps.length : Int) 64) || ltB 66 (u.ps.length : Int) || ltB 66 (u.at_.length : Int)
def great_an (l : List Used) : Ann :=
  .two .auto (.two (.two .auto (.one (.loop Nat (fun σ z => [(0, σ.tm 0), (3, .i z)]) (fun _ _ => []) 0
    (fun _ z => z ≤ l.length ∧ z ≤ 9 ∧ ∀ i, i < z → gBad (l.getD i Enc.dflt) = false) (fun _ z => l.length - z) .auto))) .auto)
def greatB (l : List Used) : Bool := (l.take 9).any gBad || (ltB 8 (l.length : Int) && leB (l.length : Int) 64) || ltB 66 (l.length : Int)
theorem great_vc (l : List Used) : bndL [AV.xl false (3 : Nat) (List.length l) fun (i j : Nat) => Enc.enc (List.getD l i Enc.dflt) j] →
  (∃ (z : Nat),
      ((z ≤ List.length l ∧ z ≤ (9 : Nat) ∧ ∀ (i : Nat), i < z → gBad (List.getD l i Enc.dflt) = false) ∧
          avM (AV.xl false (3 : Nat) (List.length l) fun (i j : Nat) => Enc.enc (List.getD l i Enc.dflt) j)
              (AV.xl false (3 : Nat) (List.length l) fun (i j : Nat) => Enc.enc (List.getD l i Enc.dflt) j) ∧
            IntKind.i64 = IntKind.i64 ∧ (0 : Int) = (↑z : Int)) ∧
        True) ∧
    ∀ (z : Nat),
      (z ≤ List.length l ∧ z ≤ (9 : Nat) ∧ ∀ (i : Nat), i < z → gBad (List.getD l i Enc.dflt) = false) →
        bsplit
          (!bsel true (ltB (↑z : Int) (↑(List.length l) : Int)) || bsel true (ltB (↑z : Int) (↑(List.length l) : Int)))
          (bsplit (!ltB (↑z : Int) (↑(List.length l) : Int) || bsel true (ltB (↑z : Int) (↑(List.length l) : Int)))
            (bsplit (bif ltB (↑z : Int) (↑(List.length l) : Int) then ltB (↑z : Int) (9 : Int) else false)
              (bsplit (DB.db ((0 : Int) ≤ (↑z : Int) ∧ (↑z : Int) < (↑(List.length l) : Int)))
                (bsplit
                  (!bsel true
                        (ltB (8 : Int)
                          (↑(List.length (Used.ps (List.getD l (Int.toNat (↑z : Int)) Enc.dflt))) : Int)) ||
                    bsel true
                      (ltB (8 : Int) (↑(List.length (Used.ps (List.getD l (Int.toNat (↑z : Int)) Enc.dflt))) : Int)))
                  (bsplit
                    (!ltB (8 : Int) (↑(List.length (Used.ps (List.getD l (Int.toNat (↑z : Int)) Enc.dflt))) : Int) ||
                      bsel true
                        (ltB (8 : Int) (↑(List.length (Used.ps (List.getD l (Int.toNat (↑z : Int)) Enc.dflt))) : Int)))
                    (bsplit
                      (!bsel false
                            (bif
                                ltB (8 : Int)
                                  (↑(List.length (Used.ps (List.getD l (Int.toNat (↑z : Int)) Enc.dflt))) : Int) then
                              leB (↑(List.length (Used.ps (List.getD l (Int.toNat (↑z : Int)) Enc.dflt))) : Int)
                                (64 : Int)
                            else false) ||
                        bsel false
                          (bif
                              ltB (8 : Int)
                                (↑(List.length (Used.ps (List.getD l (Int.toNat (↑z : Int)) Enc.dflt))) : Int) then
                            leB (↑(List.length (Used.ps (List.getD l (Int.toNat (↑z : Int)) Enc.dflt))) : Int)
                              (64 : Int)
                          else false))
                      (bsplit
                        ((!!bif
                                  ltB (8 : Int)
                                    (↑(List.length (Used.ps (List.getD l (Int.toNat (↑z : Int)) Enc.dflt))) : Int) then
                                leB (↑(List.length (Used.ps (List.getD l (Int.toNat (↑z : Int)) Enc.dflt))) : Int)
                                  (64 : Int)
                              else false) ||
                          bsel false
                            (bif
                                ltB (8 : Int)
                                  (↑(List.length (Used.ps (List.getD l (Int.toNat (↑z : Int)) Enc.dflt))) : Int) then
                              leB (↑(List.length (Used.ps (List.getD l (Int.toNat (↑z : Int)) Enc.dflt))) : Int)
                                (64 : Int)
                            else false))
                        (bsplit
                          (!bsel false
                                (bif
                                    bif
                                        ltB (8 : Int)
                                          (↑(List.length (Used.ps (List.getD l (Int.toNat (↑z : Int)) Enc.dflt))) :
                                            Int) then
                                      leB (↑(List.length (Used.ps (List.getD l (Int.toNat (↑z : Int)) Enc.dflt))) : Int)
                                        (64 : Int)
                                    else false then
                                  true
                                else
                                  ltB (66 : Int)
                                    (↑(List.length (Used.ps (List.getD l (Int.toNat (↑z : Int)) Enc.dflt))) : Int)) ||
                            bsel false
                              (bif
                                  bif
                                      ltB (8 : Int)
                                        (↑(List.length (Used.ps (List.getD l (Int.toNat (↑z : Int)) Enc.dflt))) :
                                          Int) then
                                    leB (↑(List.length (Used.ps (List.getD l (Int.toNat (↑z : Int)) Enc.dflt))) : Int)
                                      (64 : Int)
                                  else false then
                                true
                              else
                                ltB (66 : Int)
                                  (↑(List.length (Used.ps (List.getD l (Int.toNat (↑z : Int)) Enc.dflt))) : Int)))
                          (bsplit
                            (!bsel false
                                  (bif
                                      bif
                                          ltB (8 : Int)
                                            (↑(List.length (Used.ps (List.getD l (Int.toNat (↑z : Int)) Enc.dflt))) :
                                              Int) then
                                        leB
                                          (↑(List.length (Used.ps (List.getD l (Int.toNat (↑z : Int)) Enc.dflt))) : Int)
                                          (64 : Int)
                                      else false then
                                    true
                                  else
                                    ltB (66 : Int)
                                      (↑(List.length (Used.ps (List.getD l (Int.toNat (↑z : Int)) Enc.dflt))) : Int)) ||
                              bsel false
                                (bif
                                    bif
                                        ltB (8 : Int)
                                          (↑(List.length (Used.ps (List.getD l (Int.toNat (↑z : Int)) Enc.dflt))) :
                                            Int) then
                                      leB (↑(List.length (Used.ps (List.getD l (Int.toNat (↑z : Int)) Enc.dflt))) : Int)
                                        (64 : Int)
                                    else false then
                                  true
                                else
                                  ltB (66 : Int)
                                    (↑(List.length (Used.ps (List.getD l (Int.toNat (↑z : Int)) Enc.dflt))) : Int)))
                            (bsplit
                              (!bsel false
                                    (bif
                                        bif
                                            ltB (8 : Int)
                                              (↑(List.length (Used.ps (List.getD l (Int.toNat (↑z : Int)) Enc.dflt))) :
                                                Int) then
                                          leB
                                            (↑(List.length (Used.ps (List.getD l (Int.toNat (↑z : Int)) Enc.dflt))) :
                                              Int)
                                            (64 : Int)
                                        else false then
                                      true
                                    else
                                      ltB (66 : Int)
                                        (↑(List.length (Used.ps (List.getD l (Int.toNat (↑z : Int)) Enc.dflt))) :
                                          Int)) ||
                                DB.db ((0 : Int) ≤ (↑z : Int) ∧ (↑z : Int) < (↑(List.length l) : Int)))
                              (bsplit
                                (!bsel false
                                      (bif
                                          bif
                                              ltB (8 : Int)
                                                (↑(List.length
                                                      (Used.ps (List.getD l (Int.toNat (↑z : Int)) Enc.dflt))) :
                                                  Int) then
                                            leB
                                              (↑(List.length (Used.ps (List.getD l (Int.toNat (↑z : Int)) Enc.dflt))) :
                                                Int)
                                              (64 : Int)
                                          else false then
                                        true
                                      else
                                        ltB (66 : Int)
                                          (↑(List.length (Used.ps (List.getD l (Int.toNat (↑z : Int)) Enc.dflt))) :
                                            Int)) ||
                                  bsel false
                                    (bif
                                        bif
                                            ltB (8 : Int)
                                              (↑(List.length (Used.ps (List.getD l (Int.toNat (↑z : Int)) Enc.dflt))) :
                                                Int) then
                                          leB
                                            (↑(List.length (Used.ps (List.getD l (Int.toNat (↑z : Int)) Enc.dflt))) :
                                              Int)
                                            (64 : Int)
                                        else false then
                                      true
                                    else
                                      ltB (66 : Int)
                                        (↑(List.length (Used.ps (List.getD l (Int.toNat (↑z : Int)) Enc.dflt))) : Int)))
                                (bsplit
                                  (!bsel false
                                        (bif
                                            bif
                                                ltB (8 : Int)
                                                  (↑(List.length
                                                        (Used.ps (List.getD l (Int.toNat (↑z : Int)) Enc.dflt))) :
                                                    Int) then
                                              leB
                                                (↑(List.length
                                                      (Used.ps (List.getD l (Int.toNat (↑z : Int)) Enc.dflt))) :
                                                  Int)
                                                (64 : Int)
                                            else false then
                                          true
                                        else
                                          ltB (66 : Int)
                                            (↑(List.length (Used.ps (List.getD l (Int.toNat (↑z : Int)) Enc.dflt))) :
                                              Int)) ||
                                    bsel false
                                      (bif
                                          bif
                                              ltB (8 : Int)
                                                (↑(List.length
                                                      (Used.ps (List.getD l (Int.toNat (↑z : Int)) Enc.dflt))) :
                                                  Int) then
                                            leB
                                              (↑(List.length (Used.ps (List.getD l (Int.toNat (↑z : Int)) Enc.dflt))) :
                                                Int)
                                              (64 : Int)
                                          else false then
                                        true
                                      else
                                        ltB (66 : Int)
                                          (↑(List.length (Used.ps (List.getD l (Int.toNat (↑z : Int)) Enc.dflt))) :
                                            Int)))
                                  (bsplit
                                    (!bsel false
                                          (bif
                                              bif
                                                  ltB (8 : Int)
                                                    (↑(List.length
                                                          (Used.ps (List.getD l (Int.toNat (↑z : Int)) Enc.dflt))) :
                                                      Int) then
                                                leB
                                                  (↑(List.length
                                                        (Used.ps (List.getD l (Int.toNat (↑z : Int)) Enc.dflt))) :
                                                    Int)
                                                  (64 : Int)
                                              else false then
                                            true
                                          else
                                            ltB (66 : Int)
                                              (↑(List.length (Used.ps (List.getD l (Int.toNat (↑z : Int)) Enc.dflt))) :
                                                Int)) ||
                                      bsel false
                                        (bif
                                            bif
                                                ltB (8 : Int)
                                                  (↑(List.length
                                                        (Used.ps (List.getD l (Int.toNat (↑z : Int)) Enc.dflt))) :
                                                    Int) then
                                              leB
                                                (↑(List.length
                                                      (Used.ps (List.getD l (Int.toNat (↑z : Int)) Enc.dflt))) :
                                                  Int)
                                                (64 : Int)
                                            else false then
                                          true
                                        else
                                          ltB (66 : Int)
                                            (↑(List.length (Used.ps (List.getD l (Int.toNat (↑z : Int)) Enc.dflt))) :
                                              Int)))
                                    (bsplit
                                      (!bsel false
                                            (bif
                                                bif
                                                    ltB (8 : Int)
                                                      (↑(List.length
                                                            (Used.ps (List.getD l (Int.toNat (↑z : Int)) Enc.dflt))) :
                                                        Int) then
                                                  leB
                                                    (↑(List.length
                                                          (Used.ps (List.getD l (Int.toNat (↑z : Int)) Enc.dflt))) :
                                                      Int)
                                                    (64 : Int)
                                                else false then
                                              true
                                            else
                                              ltB (66 : Int)
                                                (↑(List.length
                                                      (Used.ps (List.getD l (Int.toNat (↑z : Int)) Enc.dflt))) :
                                                  Int)) ||
                                        bsel false
                                          (bif
                                              bif
                                                  ltB (8 : Int)
                                                    (↑(List.length
                                                          (Used.ps (List.getD l (Int.toNat (↑z : Int)) Enc.dflt))) :
                                                      Int) then
                                                leB
                                                  (↑(List.length
                                                        (Used.ps (List.getD l (Int.toNat (↑z : Int)) Enc.dflt))) :
                                                    Int)
                                                  (64 : Int)
                                              else false then
                                            true
                                          else
                                            ltB (66 : Int)
                                              (↑(List.length (Used.ps (List.getD l (Int.toNat (↑z : Int)) Enc.dflt))) :
                                                Int)))
                                      (bsplit
                                        ((!!bif
                                                  bif
                                                      ltB (8 : Int)
                                                        (↑(List.length
                                                              (Used.ps (List.getD l (Int.toNat (↑z : Int)) Enc.dflt))) :
                                                          Int) then
                                                    leB
                                                      (↑(List.length
                                                            (Used.ps (List.getD l (Int.toNat (↑z : Int)) Enc.dflt))) :
                                                        Int)
                                                      (64 : Int)
                                                  else false then
                                                true
                                              else
                                                ltB (66 : Int)
                                                  (↑(List.length
                                                        (Used.ps (List.getD l (Int.toNat (↑z : Int)) Enc.dflt))) :
                                                    Int)) ||
                                          bsel false
                                            (bif
                                                bif
                                                    ltB (8 : Int)
                                                      (↑(List.length
                                                            (Used.ps (List.getD l (Int.toNat (↑z : Int)) Enc.dflt))) :
                                                        Int) then
                                                  leB
                                                    (↑(List.length
                                                          (Used.ps (List.getD l (Int.toNat (↑z : Int)) Enc.dflt))) :
                                                      Int)
                                                    (64 : Int)
                                                else false then
                                              true
                                            else
                                              ltB (66 : Int)
                                                (↑(List.length
                                                      (Used.ps (List.getD l (Int.toNat (↑z : Int)) Enc.dflt))) :
                                                  Int)))
                                        (bsplit
                                          (bif
                                              bif
                                                  bif
                                                      ltB (8 : Int)
                                                        (↑(List.length
                                                              (Used.ps (List.getD l (Int.toNat (↑z : Int)) Enc.dflt))) :
                                                          Int) then
                                                    leB
                                                      (↑(List.length
                                                            (Used.ps (List.getD l (Int.toNat (↑z : Int)) Enc.dflt))) :
                                                        Int)
                                                      (64 : Int)
                                                  else false then
                                                true
                                              else
                                                ltB (66 : Int)
                                                  (↑(List.length
                                                        (Used.ps (List.getD l (Int.toNat (↑z : Int)) Enc.dflt))) :
                                                    Int) then
                                            true
                                          else
                                            ltB (66 : Int)
                                              (↑(List.length (Used.at_ (List.getD l (Int.toNat (↑z : Int)) Enc.dflt))) :
                                                Int))
                                          (true = greatB l)
                                          (bsplit (DB.db (inK IntKind.i64 ((↑z : Int) + (1 : Int))))
                                            (∃ (z' : Nat),
                                              (((z' ≤ List.length l ∧
                                                      z' ≤ (9 : Nat) ∧
                                                        ∀ (i : Nat), i < z' → gBad (List.getD l i Enc.dflt) = false) ∧
                                                    List.length l - z' < List.length l - z) ∧
                                                  avM
                                                      (AV.xl false (3 : Nat) (List.length l) fun (i j : Nat) =>
                                                        Enc.enc (List.getD l i Enc.dflt) j)
                                                      (AV.xl false (3 : Nat) (List.length l) fun (i j : Nat) =>
                                                        Enc.enc (List.getD l i Enc.dflt) j) ∧
                                                    IntKind.i64 = IntKind.i64 ∧ (↑z : Int) + (1 : Int) = (↑z' : Int)) ∧
                                                True)
                                            False))
                                        False)
                                      False)
                                    False)
                                  False)
                                False)
                              False)
                            False)
                          False)
                        False)
                      False)
                    False)
                  False)
                False)
              (bsplit
                (!bsel true (ltB (8 : Int) (↑(List.length l) : Int)) ||
                  bsel true (ltB (8 : Int) (↑(List.length l) : Int)))
                (bsplit
                  (!bsel true (ltB (8 : Int) (↑(List.length l) : Int)) ||
                    bsel true (ltB (8 : Int) (↑(List.length l) : Int)))
                  (bsplit
                    (!ltB (8 : Int) (↑(List.length l) : Int) || bsel true (ltB (8 : Int) (↑(List.length l) : Int)))
                    (bsplit
                      (!bsel false
                            (bif ltB (8 : Int) (↑(List.length l) : Int) then leB (↑(List.length l) : Int) (64 : Int)
                            else false) ||
                        bsel false
                          (bif ltB (8 : Int) (↑(List.length l) : Int) then leB (↑(List.length l) : Int) (64 : Int)
                          else false))
                      (bsplit
                        (!bsel false
                              (bif ltB (8 : Int) (↑(List.length l) : Int) then leB (↑(List.length l) : Int) (64 : Int)
                              else false) ||
                          bsel false
                            (bif ltB (8 : Int) (↑(List.length l) : Int) then leB (↑(List.length l) : Int) (64 : Int)
                            else false))
                        (bsplit
                          ((!!bif ltB (8 : Int) (↑(List.length l) : Int) then leB (↑(List.length l) : Int) (64 : Int)
                                else false) ||
                            bsel false
                              (bif ltB (8 : Int) (↑(List.length l) : Int) then leB (↑(List.length l) : Int) (64 : Int)
                              else false))
                          ((bif
                                bif ltB (8 : Int) (↑(List.length l) : Int) then leB (↑(List.length l) : Int) (64 : Int)
                                else false then
                              true
                            else ltB (66 : Int) (↑(List.length l) : Int)) =
                            greatB l)
                          False)
                        False)
                      False)
                    False)
                  False)
                False))
            False)
          False := by
  intro hb
  simp only [bsel_true, bsel_false, vc_own, bif_or, bif_and, vc_gdb, vc_db, vc_lt, vc_ne, Int.toNat_natCast, avM_refl, true_and, and_true, rdI_eq, isI64, implies_true]
  have hl : l.length ≤ 9223372036854775807 := hb.1
  refine ⟨⟨0, ⟨by omega, by omega, fun i hi => by omega⟩, rfl⟩, fun z ⟨h1, h2, h3⟩ => bsplit_iff.2 ⟨fun hz => ?_, fun hz => ?_⟩⟩
  · simp only [Bool.and_eq_true, ltB_iff] at hz
    refine ⟨⟨by omega, by omega⟩, fun _ => ⟨by omega, by omega⟩, (bsplit_iff (t := gBad (l.getD z Enc.dflt))).2 ⟨fun ht => ?_, fun hf => ⟨by simp only [inK]; omega, z + 1, ⟨⟨by omega, by omega, fun i hi => ?_⟩, by omega⟩, by omega⟩⟩⟩
    · have : (l.take 9).any gBad = true := List.any_eq_true.2 ⟨_, List.mem_iff_getElem?.2 ⟨z, by
        rw [List.getElem?_take, if_pos (by omega), List.getD_eq_getElem?_getD, List.getElem?_eq_getElem (by omega), Option.getD_some]⟩, ht⟩
      simp [greatB, this]
    · by_cases e : i = z
      · subst e; exact hf
      · exact h3 i (by omega)
  · have : (l.take 9).any gBad = false := by
      rw [Bool.eq_false_iff]
      intro h
      obtain ⟨u, hu, hg⟩ := List.any_eq_true.1 h
      obtain ⟨i, hi⟩ := List.mem_iff_getElem?.1 hu
      rw [List.getElem?_take] at hi
      split at hi
      · have hlt : i < l.length := (List.getElem?_eq_some_iff.1 hi).1
        have hz' : ¬ ((z : Int) < l.length ∧ (z : Int) < 9) := fun hh => by
          rw [(ltB_iff _ _).2 hh.1, (ltB_iff _ _).2 hh.2] at hz; cases hz
        have := h3 i (by omega)
        rw [List.getD_eq_getElem?_getD, hi, Option.getD_some, hg] at this
        cases this
      · cases hi
    simp [greatB, this]
theorem same_C (l m : List Used) : PureCall Tryd.prog [] 8 [slE l, slE m] (.b (decide (l = m))) :=
  pure_of_vc mixed (TbSound.plus tb0_sound sameI_T) (Eq.mp (by kernel_rfl) (same_vc l m) : vcFn Tryd.prog (T0.plus 26 sameI_t) 8 (same_bn l m) [slE l, slE m] (.b (decide (l = m))))
theorem great_C (l : List Used) : PureCall Tryd.prog [] 4 [slE l] (.b (greatB l)) :=
  pure_of_vc mixed tb0_sound (Eq.mp (by kernel_rfl) (great_vc l) : vcFn Tryd.prog T0 4 (great_an l) [slE l] (.b (greatB l)))
end Go.Td
