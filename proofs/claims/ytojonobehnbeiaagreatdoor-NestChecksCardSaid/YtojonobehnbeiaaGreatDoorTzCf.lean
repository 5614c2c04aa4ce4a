/- kingpostref45.Print. -/
import Derived.Test.YtojonobehnbeiaaGreatDoorTzCe
import Derived.Test.YtojonobehnbeiaaGreatDoorTzP
set_option linter.unusedSimpArgs false
namespace Go.Tz
open Go Go.Sx Go.Proofs
set_option maxRecDepth 100000
set_option maxHeartbeats 4000000

def nowU (l : List Used) (x : AV) : Used := l.getD (AV.int x).toNat Enc.dflt
def rprint_an (l : List Used) : Ann :=
  .two .auto (.two .auto (.two (.two .auto (.one (.loop Nat (fun σ z => [(0, σ.tm 0), (4, .i z)]) (fun σ z => []) 0 (fun σ z => z ≤ l.length ∧ ∀ i, i < z → pLong (l.getD i Enc.dflt) = false) (fun σ z => l.length - z) .auto))) (.two (.two .auto (.one (.loop Nat (fun σ z => [(0, σ.tm 0), (5, .i z)]) (fun σ z => []) 0 (fun σ z => z ≤ l.length ∧ ∀ i, i < z → pOdd (l.getD i Enc.dflt) = false) (fun σ z => l.length - z) .auto))) (.two .auto (.two (.two .auto (.one (.loop Nat (fun σ z => [(0, σ.tm 0), (6, .str (usedTx l z)), (7, .i z)]) (fun σ z => []) 0 (fun σ z => z ≤ l.length ∧ ∀ i, i < z → pBad (l.getD i Enc.dflt) = false) (fun σ z => l.length - z) (.two .auto (.two (.one (.two .auto (.two .auto (.two (.two .auto (.one (.loop Nat (fun σ z => [(0, σ.tm 0), (7, σ.tm 7), (6, .str (usedTx l (AV.int (σ.tm 7)).toNat ++ Lib.itoa (nowU l (σ.tm 7)).bar ++ psTx (nowU l (σ.tm 7)).ps (nowU l (σ.tm 7)).at_ z)), (8, .i z)]) (fun σ z => []) 0 (fun σ z => z ≤ (nowU l (σ.tm 7)).ps.length ∧ ∀ i, i < z → pNeg ((nowU l (σ.tm 7)).ps.getD i 0) = false ∧ pNeg ((nowU l (σ.tm 7)).at_.getD i 0) = false) (fun σ z => (nowU l (σ.tm 7)).ps.length - z) .auto))) .auto)))) .auto))))) .auto)))))
theorem print_bad {l : List Used} {e : Int} (h : printE l = e) (h2 : e ≠ 0) : [] = printS l ∧ e = printE l := by
  unfold printS
  rw [h, beq_eq_false_iff_ne.2 h2]
  exact ⟨rfl, rfl⟩
theorem none_U {l : List Used} {p : Used → Bool} (h : ∀ i, i < l.length → p (l.getD i Enc.dflt) = false) : l.any p = false := by
  rw [List.any_eq_false]
  intro x hx
  obtain ⟨i, hi, rfl⟩ := List.getElem_of_mem hx
  have := h i hi
  rw [List.getD_eq_getElem?_getD, List.getElem?_eq_getElem hi, Option.getD_some] at this
  rw [this]; decide
noncomputable def Trp (G : List (Nat × Obj)) : Tb := (tb0 G).plus 56 itoa_t
theorem Trp_sound {G : List (Nat × Obj)} (hG : TabIn G) : TbSound Tryz.prog (Trp G) := TbSound.plus tb0_sound (itoa_T hG)
theorem rprint_vc (G : List (Nat × Obj)) (l : List Used) (hin : InR l) : bndL [slX 3 l] → bsplit (ltB (64 : Int) (l.length : Int)) (2 = List.length [AV.str (Array.toList (ByteArray.data (ByteArray.mk #[]))), AV.v (Value.int .i64 (4 : Int))] ∧ (True ∧ Array.toList (ByteArray.data (ByteArray.mk #[])) = printS l) ∧ IntKind.i64 = .i64 ∧ (4 : Int) = printE l) ((∃ (z : Nat), ((z ≤ l.length ∧ ∀ (i : Nat), i < z → pLong (List.getD l i Enc.dflt) = false) ∧ avM (slX 3 l) (slX 3 l) ∧ IntKind.i64 = .i64 ∧ (0 : Int) = (z : Int)) ∧ True) ∧ ∀ (z : Nat), (z ≤ l.length ∧ ∀ (i : Nat), i < z → pLong (List.getD l
 i Enc.dflt) = false) → bsplit (ltB (z : Int) (l.length : Int)) (bsplit (DB.db ((0 : Int) ≤ (z : Int) ∧ (z : Int) < (l.length : Int))) (bsplit (ltB (64 : Int) (↑(List.length (Used.ps (List.getD l (Int.toNat (z : Int)) Enc.dflt))) : Int)) (2 = List.length [AV.str (Array.toList (ByteArray.data (ByteArray.mk #[]))), AV.v (Value.int .i64 (4 : Int))] ∧ (True ∧ Array.toList (ByteArray.data (ByteArray.mk #[])) = printS l) ∧ IntKind.i64 = .i64 ∧ (4 : Int) = printE l) (bsplit (DB.db (inK .i64 ((z : Int) + (1 : Int)))) (∃ (z' : Nat), (((z' ≤ l.length ∧ ∀ (i : Nat), i < z' → pLong (List.getD l i Enc.dflt)
 = false) ∧ l.length - z' < l.length - z) ∧ avM (slX 3 l) (slX 3 l) ∧ IntKind.i64 = .i64 ∧ (z : Int) + (1 : Int) = (z' : Int)) ∧ True) False)) False) ((∃ (z : Nat), ((z ≤ l.length ∧ ∀ (i : Nat), i < z → pOdd (List.getD l i Enc.dflt) = false) ∧ avM (slX 3 l) (slX 3 l) ∧ IntKind.i64 = .i64 ∧ (0 : Int) = (z : Int)) ∧ True) ∧ ∀ (z : Nat), (z ≤ l.length ∧ ∀ (i : Nat), i < z → pOdd (List.getD l i Enc.dflt) = false) → bsplit (ltB (z : Int) (l.length : Int)) (bsplit (DB.db ((0 : Int) ≤ (z : Int) ∧ (z : Int) < (l.length : Int))) (bsplit (DB.db ((0 : Int) ≤ (z : Int) ∧ (z : Int) < (l.length : Int)))
 (bsplit ((↑(List.length (Used.ps (List.getD l (Int.toNat (z : Int)) Enc.dflt))) : Int) != (↑(List.length (Used.at_ (List.getD l (Int.toNat (z : Int)) Enc.dflt))) : Int)) (2 = List.length [AV.str (Array.toList (ByteArray.data (ByteArray.mk #[]))), AV.v (Value.int .i64 (9 : Int))] ∧ (True ∧ Array.toList (ByteArray.data (ByteArray.mk #[])) = printS l) ∧ IntKind.i64 = .i64 ∧ (9 : Int) = printE l) (bsplit (DB.db (inK .i64 ((z : Int) + (1 : Int)))) (∃ (z' : Nat), (((z' ≤ l.length ∧ ∀ (i : Nat), i < z' → pOdd (List.getD l i Enc.dflt) = false) ∧ l.length - z' < l.length - z) ∧ avM (slX 3 l) (slX 3 l) ∧
 IntKind.i64 = .i64 ∧ (z : Int) + (1 : Int) = (z' : Int)) ∧ True) False)) False) False) ((∃ (z : Nat), ((z ≤ l.length ∧ ∀ (i : Nat), i < z → pBad (List.getD l i Enc.dflt) = false) ∧ avM (slX 3 l) (slX 3 l) ∧ Array.toList (ByteArray.data (ByteArray.mk #[])) = usedTx l z ∧ IntKind.i64 = .i64 ∧ (0 : Int) = (z : Int)) ∧ True) ∧ ∀ (z : Nat), (z ≤ l.length ∧ ∀ (i : Nat), i < z → pBad (List.getD l i Enc.dflt) = false) → bsplit (ltB (z : Int) (l.length : Int)) (bsplit (DB.db ((0 : Int) ≤ (z : Int) ∧ (z : Int) < (l.length : Int))) (bsplit (ltB (Used.bar (List.getD l (Int.toNat (z : Int)) Enc.dflt)) (0 :
 Int)) (2 = List.length [AV.str (Array.toList (ByteArray.data (ByteArray.mk #[]))), AV.v (Value.int .i64 (2 : Int))] ∧ (True ∧ Array.toList (ByteArray.data (ByteArray.mk #[])) = printS l) ∧ IntKind.i64 = .i64 ∧ (2 : Int) = printE l) (bsplit (DB.db ((0 : Int) ≤ (z : Int) ∧ (z : Int) < (l.length : Int))) (((-9223372036854775808 : Int) ≤ Used.bar (List.getD l (Int.toNat (z : Int)) Enc.dflt) ∧ Used.bar (List.getD l (Int.toNat (z : Int)) Enc.dflt) ≤ (9223372036854775807 : Int)) ∧ bsplit (DB.db (List.length (usedTx l z) + List.length (Lib.itoa (Used.bar (List.getD l (Int.toNat (z : Int)) Enc.dflt))) ≤
 9223372036854775807)) ((∃ (z_1 : Nat), ((z_1 ≤ List.length (Used.ps (nowU l (AV.v (Value.int .i64 (z : Int))))) ∧ ∀ (i : Nat), i < z_1 → pNeg (List.getD (Used.ps (nowU l (AV.v (Value.int .i64 (z : Int))))) i (0 : Int)) = false ∧ pNeg (List.getD (Used.at_ (nowU l (AV.v (Value.int .i64 (z : Int))))) i (0 : Int)) = false) ∧ avM (slX 3 l) (slX 3 l) ∧ (IntKind.i64 = .i64 ∧ (z : Int) = (z : Int)) ∧ usedTx l z ++ Lib.itoa (Used.bar (List.getD l (Int.toNat (z : Int)) Enc.dflt)) = usedTx l (Int.toNat (AV.int (AV.v (Value.int .i64 (z : Int))))) ++ Lib.itoa (Used.bar (nowU l (AV.v (Value.int .i64 (z :
 Int))))) ++ psTx (Used.ps (nowU l (AV.v (Value.int .i64 (z : Int))))) (Used.at_ (nowU l (AV.v (Value.int .i64 (z : Int))))) z_1 ∧ IntKind.i64 = .i64 ∧ (0 : Int) = (z_1 : Int)) ∧ True) ∧ ∀ (z_1 : Nat), (z_1 ≤ List.length (Used.ps (nowU l (AV.v (Value.int .i64 (z : Int))))) ∧ ∀ (i : Nat), i < z_1 → pNeg (List.getD (Used.ps (nowU l (AV.v (Value.int .i64 (z : Int))))) i (0 : Int)) = false ∧ pNeg (List.getD (Used.at_ (nowU l (AV.v (Value.int .i64 (z : Int))))) i (0 : Int)) = false) → bsplit (DB.db ((0 : Int) ≤ (z : Int) ∧ (z : Int) < (l.length : Int))) (bsplit (ltB (z_1 : Int) (↑(List.length
 (Used.ps (List.getD l (Int.toNat (z : Int)) Enc.dflt))) : Int)) (bsplit (DB.db ((0 : Int) ≤ (z : Int) ∧ (z : Int) < (l.length : Int))) (bsplit (DB.db ((0 : Int) ≤ (z_1 : Int) ∧ (z_1 : Int) < (↑(List.length (Used.ps (List.getD l (Int.toNat (z : Int)) Enc.dflt))) : Int))) (bsplit (!bsel false (ltB (List.getD (Used.ps (List.getD l (Int.toNat (z : Int)) Enc.dflt)) (Int.toNat (z_1 : Int)) Enc.dflt) (0 : Int)) || bsel false (ltB (List.getD (Used.ps (List.getD l (Int.toNat (z : Int)) Enc.dflt)) (Int.toNat (z_1 : Int)) Enc.dflt) (0 : Int))) (bsplit (!bsel false (ltB (List.getD (Used.ps (List.getD l
 (Int.toNat (z : Int)) Enc.dflt)) (Int.toNat (z_1 : Int)) Enc.dflt) (0 : Int)) || bsel false (ltB (List.getD (Used.ps (List.getD l (Int.toNat (z : Int)) Enc.dflt)) (Int.toNat (z_1 : Int)) Enc.dflt) (0 : Int))) (bsplit (!bsel false (ltB (List.getD (Used.ps (List.getD l (Int.toNat (z : Int)) Enc.dflt)) (Int.toNat (z_1 : Int)) Enc.dflt) (0 : Int)) || DB.db ((0 : Int) ≤ (z : Int) ∧ (z : Int) < (l.length : Int))) (bsplit (!bsel false (ltB (List.getD (Used.ps (List.getD l (Int.toNat (z : Int)) Enc.dflt)) (Int.toNat (z_1 : Int)) Enc.dflt) (0 : Int)) || bsel false (ltB (List.getD (Used.ps (List.getD l
 (Int.toNat (z : Int)) Enc.dflt)) (Int.toNat (z_1 : Int)) Enc.dflt) (0 : Int))) (bsplit (!bsel false (ltB (List.getD (Used.ps (List.getD l (Int.toNat (z : Int)) Enc.dflt)) (Int.toNat (z_1 : Int)) Enc.dflt) (0 : Int)) || bsel false (ltB (List.getD (Used.ps (List.getD l (Int.toNat (z : Int)) Enc.dflt)) (Int.toNat (z_1 : Int)) Enc.dflt) (0 : Int))) (bsplit (!bsel false (ltB (List.getD (Used.ps (List.getD l (Int.toNat (z : Int)) Enc.dflt)) (Int.toNat (z_1 : Int)) Enc.dflt) (0 : Int)) || bsel false (ltB (List.getD (Used.ps (List.getD l (Int.toNat (z : Int)) Enc.dflt)) (Int.toNat (z_1 : Int))
 Enc.dflt) (0 : Int))) (bsplit (!bsel false (ltB (List.getD (Used.ps (List.getD l (Int.toNat (z : Int)) Enc.dflt)) (Int.toNat (z_1 : Int)) Enc.dflt) (0 : Int)) || bsel false (ltB (List.getD (Used.ps (List.getD l (Int.toNat (z : Int)) Enc.dflt)) (Int.toNat (z_1 : Int)) Enc.dflt) (0 : Int))) (bsplit (!bsel false (ltB (List.getD (Used.ps (List.getD l (Int.toNat (z : Int)) Enc.dflt)) (Int.toNat (z_1 : Int)) Enc.dflt) (0 : Int)) || DB.db ((0 : Int) ≤ (z_1 : Int) ∧ (z_1 : Int) < (↑(List.length (Used.at_ (List.getD l (Int.toNat (z : Int)) Enc.dflt))) : Int))) (bsplit (!bsel false (ltB (List.getD
 (Used.ps (List.getD l (Int.toNat (z : Int)) Enc.dflt)) (Int.toNat (z_1 : Int)) Enc.dflt) (0 : Int)) || bsel false (ltB (List.getD (Used.ps (List.getD l (Int.toNat (z : Int)) Enc.dflt)) (Int.toNat (z_1 : Int)) Enc.dflt) (0 : Int))) (bsplit (!bsel false (ltB (List.getD (Used.ps (List.getD l (Int.toNat (z : Int)) Enc.dflt)) (Int.toNat (z_1 : Int)) Enc.dflt) (0 : Int)) || bsel false (ltB (List.getD (Used.ps (List.getD l (Int.toNat (z : Int)) Enc.dflt)) (Int.toNat (z_1 : Int)) Enc.dflt) (0 : Int))) (bsplit (!!ltB (List.getD (Used.ps (List.getD l (Int.toNat (z : Int)) Enc.dflt)) (Int.toNat (z_1 :
 Int)) Enc.dflt) (0 : Int) || bsel false (ltB (List.getD (Used.ps (List.getD l (Int.toNat (z : Int)) Enc.dflt)) (Int.toNat (z_1 : Int)) Enc.dflt) (0 : Int))) (bsplit (bif ltB (List.getD (Used.ps (List.getD l (Int.toNat (z : Int)) Enc.dflt)) (Int.toNat (z_1 : Int)) Enc.dflt) (0 : Int) then true else ltB (List.getD (Used.at_ (List.getD l (Int.toNat (z : Int)) Enc.dflt)) (Int.toNat (z_1 : Int)) Enc.dflt) (0 : Int)) (2 = List.length [AV.str (Array.toList (ByteArray.data (ByteArray.mk #[]))), AV.v (Value.int .i64 (2 : Int))] ∧ (True ∧ Array.toList (ByteArray.data (ByteArray.mk #[])) = printS l) ∧
 IntKind.i64 = .i64 ∧ (2 : Int) = printE l) (bsplit (DB.db (List.length (usedTx l (Int.toNat (AV.int (AV.v (Value.int .i64 (z : Int))))) ++ Lib.itoa (Used.bar (nowU l (AV.v (Value.int .i64 (z : Int))))) ++ psTx (Used.ps (nowU l (AV.v (Value.int .i64 (z : Int))))) (Used.at_ (nowU l (AV.v (Value.int .i64 (z : Int))))) z_1) + 1 ≤ 9223372036854775807)) (bsplit (DB.db ((0 : Int) ≤ (z : Int) ∧ (z : Int) < (l.length : Int))) (bsplit (DB.db ((0 : Int) ≤ (z_1 : Int) ∧ (z_1 : Int) < (↑(List.length (Used.ps (List.getD l (Int.toNat (z : Int)) Enc.dflt))) : Int))) (((-9223372036854775808 : Int) ≤ List.getD
 (Used.ps (List.getD l (Int.toNat (z : Int)) Enc.dflt)) (Int.toNat (z_1 : Int)) Enc.dflt ∧ List.getD (Used.ps (List.getD l (Int.toNat (z : Int)) Enc.dflt)) (Int.toNat (z_1 : Int)) Enc.dflt ≤ (9223372036854775807 : Int)) ∧ bsplit (DB.db (List.length (usedTx l (Int.toNat (AV.int (AV.v (Value.int .i64 (z : Int))))) ++ Lib.itoa (Used.bar (nowU l (AV.v (Value.int .i64 (z : Int))))) ++ psTx (Used.ps (nowU l (AV.v (Value.int .i64 (z : Int))))) (Used.at_ (nowU l (AV.v (Value.int .i64 (z : Int))))) z_1 ++ Array.toList (ByteArray.data (ByteArray.mk #[(32 : UInt8)]))) + List.length (Lib.itoa (List.getD
 (Used.ps (List.getD l (Int.toNat (z : Int)) Enc.dflt)) (Int.toNat (z_1 : Int)) Enc.dflt)) ≤ 9223372036854775807)) (bsplit (DB.db (List.length (usedTx l (Int.toNat (AV.int (AV.v (Value.int .i64 (z : Int))))) ++ Lib.itoa (Used.bar (nowU l (AV.v (Value.int .i64 (z : Int))))) ++ psTx (Used.ps (nowU l (AV.v (Value.int .i64 (z : Int))))) (Used.at_ (nowU l (AV.v (Value.int .i64 (z : Int))))) z_1 ++ Array.toList (ByteArray.data (ByteArray.mk #[(32 : UInt8)])) ++ Lib.itoa (List.getD (Used.ps (List.getD l (Int.toNat (z : Int)) Enc.dflt)) (Int.toNat (z_1 : Int)) Enc.dflt)) + 1 ≤ 9223372036854775807))
 (bsplit (DB.db ((0 : Int) ≤ (z : Int) ∧ (z : Int) < (l.length : Int))) (bsplit (DB.db ((0 : Int) ≤ (z_1 : Int) ∧ (z_1 : Int) < (↑(List.length (Used.at_ (List.getD l (Int.toNat (z : Int)) Enc.dflt))) : Int))) (((-9223372036854775808 : Int) ≤ List.getD (Used.at_ (List.getD l (Int.toNat (z : Int)) Enc.dflt)) (Int.toNat (z_1 : Int)) Enc.dflt ∧ List.getD (Used.at_ (List.getD l (Int.toNat (z : Int)) Enc.dflt)) (Int.toNat (z_1 : Int)) Enc.dflt ≤ (9223372036854775807 : Int)) ∧ bsplit (DB.db (List.length (usedTx l (Int.toNat (AV.int (AV.v (Value.int .i64 (z : Int))))) ++ Lib.itoa (Used.bar (nowU l (AV.v
 (Value.int .i64 (z : Int))))) ++ psTx (Used.ps (nowU l (AV.v (Value.int .i64 (z : Int))))) (Used.at_ (nowU l (AV.v (Value.int .i64 (z : Int))))) z_1 ++ Array.toList (ByteArray.data (ByteArray.mk #[(32 : UInt8)])) ++ Lib.itoa (List.getD (Used.ps (List.getD l (Int.toNat (z : Int)) Enc.dflt)) (Int.toNat (z_1 : Int)) Enc.dflt) ++ Array.toList (ByteArray.data (ByteArray.mk #[(64 : UInt8)]))) + List.length (Lib.itoa (List.getD (Used.at_ (List.getD l (Int.toNat (z : Int)) Enc.dflt)) (Int.toNat (z_1 : Int)) Enc.dflt)) ≤ 9223372036854775807)) (bsplit (DB.db (inK .i64 ((z_1 : Int) + (1 : Int)))) (∃ (z' :
 Nat), (((z' ≤ List.length (Used.ps (nowU l (AV.v (Value.int .i64 (z : Int))))) ∧ ∀ (i : Nat), i < z' → pNeg (List.getD (Used.ps (nowU l (AV.v (Value.int .i64 (z : Int))))) i (0 : Int)) = false ∧ pNeg (List.getD (Used.at_ (nowU l (AV.v (Value.int .i64 (z : Int))))) i (0 : Int)) = false) ∧ List.length (Used.ps (nowU l (AV.v (Value.int .i64 (z : Int))))) - z' < List.length (Used.ps (nowU l (AV.v (Value.int .i64 (z : Int))))) - z_1) ∧ avM (slX 3 l) (slX 3 l) ∧ (IntKind.i64 = .i64 ∧ (z : Int) = (z : Int)) ∧ usedTx l (Int.toNat (AV.int (AV.v (Value.int .i64 (z : Int))))) ++ Lib.itoa (Used.bar (nowU l
 (AV.v (Value.int .i64 (z : Int))))) ++ psTx (Used.ps (nowU l (AV.v (Value.int .i64 (z : Int))))) (Used.at_ (nowU l (AV.v (Value.int .i64 (z : Int))))) z_1 ++ Array.toList (ByteArray.data (ByteArray.mk #[(32 : UInt8)])) ++ Lib.itoa (List.getD (Used.ps (List.getD l (Int.toNat (z : Int)) Enc.dflt)) (Int.toNat (z_1 : Int)) Enc.dflt) ++ Array.toList (ByteArray.data (ByteArray.mk #[(64 : UInt8)])) ++ Lib.itoa (List.getD (Used.at_ (List.getD l (Int.toNat (z : Int)) Enc.dflt)) (Int.toNat (z_1 : Int)) Enc.dflt) = usedTx l (Int.toNat (AV.int (AV.v (Value.int .i64 (z : Int))))) ++ Lib.itoa (Used.bar (nowU
 l (AV.v (Value.int .i64 (z : Int))))) ++ psTx (Used.ps (nowU l (AV.v (Value.int .i64 (z : Int))))) (Used.at_ (nowU l (AV.v (Value.int .i64 (z : Int))))) z' ∧ IntKind.i64 = .i64 ∧ (z_1 : Int) + (1 : Int) = (z' : Int)) ∧ True) False) False) False) False) False) False) False) False) False)) False) False) False) False) False) False) False) False) False) False) False) False) False) (bsplit (DB.db (List.length (usedTx l (Int.toNat (AV.int (AV.v (Value.int .i64 (z : Int))))) ++ Lib.itoa (Used.bar (nowU l (AV.v (Value.int .i64 (z : Int))))) ++ psTx (Used.ps (nowU l (AV.v (Value.int .i64 (z : Int)))))
 (Used.at_ (nowU l (AV.v (Value.int .i64 (z : Int))))) z_1) + 1 ≤ 9223372036854775807)) (bsplit (DB.db (inK .i64 ((z : Int) + (1 : Int)))) (∃ (z' : Nat), (((z' ≤ l.length ∧ ∀ (i : Nat), i < z' → pBad (List.getD l i Enc.dflt) = false) ∧ l.length - z' < l.length - z) ∧ avM (slX 3 l) (slX 3 l) ∧ usedTx l (Int.toNat (AV.int (AV.v (Value.int .i64 (z : Int))))) ++ Lib.itoa (Used.bar (nowU l (AV.v (Value.int .i64 (z : Int))))) ++ psTx (Used.ps (nowU l (AV.v (Value.int .i64 (z : Int))))) (Used.at_ (nowU l (AV.v (Value.int .i64 (z : Int))))) z_1 ++ Array.toList (ByteArray.data (ByteArray.mk #[(10 :
 UInt8)])) = usedTx l z' ∧ IntKind.i64 = .i64 ∧ (z : Int) + (1 : Int) = (z' : Int)) ∧ True) False) False)) False) False) False)) False) (2 = List.length [AV.str (usedTx l z), AV.v (Value.int .i64 (0 : Int))] ∧ (True ∧ usedTx l z = printS l) ∧ IntKind.i64 = .i64 ∧ (0 : Int) = printE l)))) := by
  intro hb
  simp only [slX, slN, avM_refl, true_and, and_true, bsel_true, bsel_false, vc_own, bif_or, bif_and, vc_gdb, vc_db, vc_lt, vc_le, vc_ne, vc_eq, vc_tt, Int.toNat_natCast, Nat.zero_add, Nat.zero_le, Nat.sub_zero, agD_bar, agOk_bar, agD_bar', agOk_bar', agD_cut, agOk_cut, agD_cut', agOk_cut', agD_used, agOk_used, agD_used', agOk_used', int_i, Bool.or_true, cond_true, cond_false, nowU]
  refine ⟨fun h => ⟨rfl, print_bad (by unfold printE; rw [(ltB_iff _ _).2 h]; rfl) (by decide)⟩, fun h => ?_⟩
  have hn64 : ltB 64 (l.length : Int) = false := by rw [ltB_eq, decide_eq_false_iff_not]; omega
  refine ⟨⟨0, ⟨by omega, fun i hi => by omega⟩, rfl⟩, fun z ⟨z1, z2⟩ => ⟨fun hz => ⟨by omega, fun hl => ⟨rfl, print_bad ?_ (by decide)⟩, fun hl => ⟨by simp only [inK]; omega, z + 1, ⟨⟨by omega, fun i hi => ?_⟩, by omega⟩, by omega⟩⟩, fun hz => ?_⟩⟩
  · unfold printE
    rw [anyU_at (p := pLong) (i := z) (by omega) ((ltB_iff _ _).2 hl), Bool.or_true]; rfl
  · by_cases e : i = z
    · rw [e]; exact (show pLong _ = false by unfold pLong; rw [ltB_eq, decide_eq_false_iff_not]; omega)
    · exact z2 i (by omega)
  have h1 : l.any pLong = false := none_U fun i hi => z2 i (by omega)
  refine ⟨⟨0, ⟨by omega, fun i hi => by omega⟩, rfl⟩, fun z ⟨z1, z2⟩ => ⟨fun hz => ⟨by omega, by omega, fun hl => ⟨rfl, print_bad ?_ (by decide)⟩, fun hl => ⟨by simp only [inK]; omega, z + 1, ⟨⟨by omega, fun i hi => ?_⟩, by omega⟩, by omega⟩⟩, fun hz => ?_⟩⟩
  · unfold printE
    rw [hn64, h1, anyU_at (p := pOdd) (i := z) (by omega) (bne_iff_ne.2 fun e => hl e.symm)]; rfl
  · by_cases e : i = z
    · rw [e]; exact (show pOdd _ = false by unfold pOdd; rw [hl]; exact bne_self_eq_false _)
    · exact z2 i (by omega)
  have h2 : l.any pOdd = false := none_U fun i hi => z2 i (by omega)
  have hbad : ∀ z, z < l.length → pBad (l.getD z Enc.dflt) = true → printE l = 2 := fun z hz hp => by
    unfold printE
    rw [hn64, h1, h2, anyU_at (p := pBad) (i := z) hz hp]; rfl
  have h64 := long_of h1
  have hlen := usedTx_len hin h64
  refine ⟨⟨0, ⟨by omega, fun i hi => by omega⟩, rfl, rfl⟩, fun z ⟨z1, z2⟩ => ⟨fun hz => ⟨by omega, fun hneg => ⟨rfl, print_bad (hbad z (by omega) ?_) (by decide)⟩, fun hpos => ?_⟩, fun hz => ?_⟩⟩
  · unfold pBad; rw [(ltB_iff _ _).2 hneg]; rfl
  · obtain ⟨i1, i2⟩ := hin z
    have il1 := il i1
    have l1 := hlen z
    have hodd := odd_of h2 z
    have h64z := h64 z
    simp only [inK] at i1
    refine ⟨by omega, by omega, by omega, ⟨0, ⟨by omega, fun i hi => by omega⟩, by simp [psTx], rfl⟩, fun y ⟨y1, y2⟩ => ⟨by omega, fun hy => ⟨by omega, by omega, fun _ => by omega, fun _ => by omega, bsplit_iff.2 ⟨fun hb2 => ⟨rfl, print_bad (hbad z (by omega) ?_) (by decide)⟩, fun hb2 => ?_⟩⟩, fun hy => ?_⟩⟩
    · unfold pBad
      rw [Bool.or_eq_true] at hb2
      rcases hb2 with hb2 | hb2
      · rw [any_at (l := (l.getD z Enc.dflt).ps) (p := pNeg) (i := y) (by omega) hb2, Bool.or_true]; rfl
      · rw [any_at (l := (l.getD z Enc.dflt).at_) (p := pNeg) (i := y) (by omega) hb2, Bool.or_true]
    · have lp := psTx_len i2 y
      have ia := il (i2 y).1
      have ib := il (i2 y).2
      have ja := (i2 y).1
      have jb := (i2 y).2
      simp only [inK] at ja jb
      have ed : (Enc.dflt : Int) = 0 := rfl
      rw [Bool.or_eq_false_iff] at hb2
      refine vc_db.2 ⟨by simp only [List.length_append]; omega, by omega, by omega, ja, vc_db.2 ⟨by simp only [List.length_append, List.length_cons, List.length_nil, ed]; omega, vc_db.2 ⟨by simp only [List.length_append, List.length_cons, List.length_nil, ed]; omega, by omega, by omega, jb, vc_db.2 ⟨by simp only [List.length_append, List.length_cons, List.length_nil, ed]; omega, by simp only [inK]; omega, y + 1, ⟨⟨by omega, fun i hi => ?_⟩, by omega⟩, ?_, by omega⟩⟩⟩⟩
      · by_cases e : i = y
        · rw [e]; exact hb2
        · exact y2 i (by omega)
      · simp only [psTx, pairTx, List.append_assoc, ed]
    · have lp := psTx_len i2 y
      have ey : y = (l.getD z Enc.dflt).ps.length := by omega
      refine vc_db.2 ⟨by simp only [List.length_append]; omega, by simp only [inK]; omega, z + 1, ⟨⟨by omega, fun i hi => ?_⟩, by omega⟩, ?_, by omega⟩
      · by_cases e : i = z
        · rw [e]
          unfold pBad
          rw [show ltB (l.getD z Enc.dflt).bar 0 = false by rw [ltB_eq, decide_eq_false_iff_not]; omega, any_none fun i hi => (y2 i (by omega)).1, any_none fun i hi => (y2 i (by omega)).2]; rfl
        · exact z2 i (by omega)
      · rw [ey]; simp only [usedTx, barTx, List.append_assoc]
  · have h3 : l.any pBad = false := none_U fun i hi => z2 i (by omega)
    have e : printE l = 0 := by unfold printE; rw [hn64, h1, h2, h3]; rfl
    have e2 : printS l = usedTx l l.length := by unfold printS; rw [e]; rfl
    rw [e, e2, show z = l.length by omega]
    exact ⟨rfl, rfl, rfl⟩
theorem rprint_C {G : List (Nat × Obj)} (hG : TabIn G) (l : List Used) (hin : InR l) : PureCall Tryz.prog G 26 [slE l] (.tup 2 (listFn [.str (printS l), .i (printE l)])) :=
  pure_of_vc mixed (Trp_sound hG) (Eq.mp (by kernel_rfl) (rprint_vc G l hin) : vcFn Tryz.prog (Trp G) 26 (rprint_an l) [slE l] (.tup 2 (listFn [.str (printS l), .i (printE l)])))
end Go.Tz
