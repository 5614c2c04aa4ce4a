/- kingpostlaw45.NestTexts. -/
import Derived.Test.YtojonobehnbeiaaDoorTdL
namespace Go.Td
open Go Go.Sx Go.Proofs
set_option maxRecDepth 100000
set_option maxHeartbeats 4000000

def rdU : AV → List Used
  | .xl _ _ n e => listOf n fun i => Enc.dec (e i)
  | _ => []
theorem dec_enc (u : Used) : Enc.dec (Enc.enc u) = u := by
  cases u with
  | mk b ps at_ =>
    have h : ∀ l : List Int, slD (α := Int) (slE l) = l := fun l => listOf_getD l (0 : Int)
    show (⟨b, slD (slE ps), slD (slE at_)⟩ : Used) = ⟨b, ps, at_⟩
    rw [h, h]
theorem rdU_eq (l : List Used) : rdU (.xl false 3 l.length fun i j => Enc.enc (l.getD i Enc.dflt) j) = l := by
  show (listOf l.length fun i => Enc.dec (Enc.enc (l.getD i Enc.dflt))) = l
  rw [show (fun i => Enc.dec (Enc.enc (l.getD i Enc.dflt))) = fun i => l.getD i Enc.dflt from funext fun i => dec_enc _]
  exact listOf_getD l _
def great_t : List AV → Option (List Cond × AV)
  | [x] => some ([.p (x = slE (rdU x))], .b (greatB (rdU x)))
  | _ => none
theorem great_T : PureT Tryd.prog [] 4 great_t := by
  intro xs ps r h hp
  unfold great_t at h
  split at h
  · rename_i x
    cases h
    have h1 : x = slE (rdU x) := hp _ List.mem_cons_self
    rw [h1, show rdU (slE (rdU x)) = rdU x from rdU_eq _]
    exact great_C _
  · cases h
def print_t : List AV → Option (List Cond × AV)
  | [x] => some ([.p (x = slE (rdU x)), .p (InR (rdU x))], .tup 2 (listFn [.str (printS (rdU x)), .i (printE (rdU x))]))
  | _ => none
theorem print_T {G : List (Nat × Obj)} (hG : TabIn G) : PureT Tryd.prog G 6 print_t := by
  intro xs ps r h hp
  unfold print_t at h
  split at h
  · rename_i x
    cases h
    have h1 : x = slE (rdU x) := hp _ List.mem_cons_self
    have h2 : InR (rdU x) := hp _ (List.mem_cons_of_mem _ List.mem_cons_self)
    rw [h1, show rdU (slE (rdU x)) = rdU x from rdU_eq _]
    exact print_C hG _ h2
  · cases h
def same_t : List AV → Option (List Cond × AV)
  | [x, y] => some ([.p (x = slE (rdU x)), .p (y = slE (rdU y))], .b (decide (rdU x = rdU y)))
  | _ => none
theorem same_T : PureT Tryd.prog [] 8 same_t := by
  intro xs ps r h hp
  unfold same_t at h
  split at h
  · rename_i x y
    cases h
    have h1 : x = slE (rdU x) := hp _ List.mem_cons_self
    have h2 : y = slE (rdU y) := hp _ (List.mem_cons_of_mem _ List.mem_cons_self)
    rw [h1, h2, show rdU (slE (rdU x)) = rdU x from rdU_eq _, show rdU (slE (rdU y)) = rdU y from rdU_eq _]
    exact same_C _ _
  · cases h
def awake_t : List AV → Option (List Cond × AV)
  | [] => some ([], .b true)
  | _ => none
noncomputable def TN (G : List (Nat × Obj)) : Tb := (((((tb0 G).plus 4 great_t).plus 6 print_t).plus 8 same_t).plus 7 count_t).plus 5 awake_t
theorem texts_vc (G : List (Nat × Obj)) (a b : List Used) (ha : InR a) (hb : InR b) : bndL
 [AV.xl false (3 : Nat) (List.length a) fun (i j : Nat) => Enc.enc (List.getD a i Enc.dflt) j,
 AV.xl false (3 : Nat) (List.length b) fun (i j : Nat) => Enc.enc (List.getD b i Enc.dflt) j] →
 ((AV.xl false (3 : Nat) (List.length a) fun (i j : Nat) => Enc.enc (List.getD a i Enc.dflt) j) =
 AV.xl false (3 : Nat)
 (List.length
 (rdU (AV.xl false (3 : Nat) (List.length a) fun (i j : Nat) => Enc.enc (List.getD a i Enc.dflt) j)))
 fun (i j : Nat) =>
 Enc.enc
 (List.getD (rdU (AV.xl false (3 : Nat) (List.length a) fun (i j : Nat) => Enc.enc (List.getD a i Enc.dflt) j))
 i Enc.dflt)
 j) ∧
 bsplit
 (!bsel false
 (greatB
 (rdU (AV.xl false (3 : Nat) (List.length a) fun (i j : Nat) => Enc.enc (List.getD a i Enc.dflt) j))) ||
 bsel false
 (greatB (rdU (AV.xl false (3 : Nat) (List.length a) fun (i j : Nat) => Enc.enc (List.getD a i Enc.dflt) j))))
 ((bsel false
 (greatB
 (rdU (AV.xl false (3 : Nat) (List.length a) fun (i j : Nat) => Enc.enc (List.getD a i Enc.dflt) j))) =
 true →
 (AV.xl false (3 : Nat) (List.length b) fun (i j : Nat) => Enc.enc (List.getD b i Enc.dflt) j) =
 AV.xl false (3 : Nat)
 (List.length
 (rdU (AV.xl false (3 : Nat) (List.length b) fun (i j : Nat) => Enc.enc (List.getD b i Enc.dflt) j)))
 fun (i j : Nat) =>
 Enc.enc
 (List.getD
 (rdU (AV.xl false (3 : Nat) (List.length b) fun (i j : Nat) => Enc.enc (List.getD b i Enc.dflt) j)) i
 Enc.dflt)
 j) ∧
 bsplit
 (!!greatB
 (rdU (AV.xl false (3 : Nat) (List.length a) fun (i j : Nat) => Enc.enc (List.getD a i Enc.dflt) j)) ||
 bsel false
 (greatB
 (rdU (AV.xl false (3 : Nat) (List.length a) fun (i j : Nat) => Enc.enc (List.getD a i Enc.dflt) j))))
 (bsplit
 (bif
 greatB
 (rdU
 (AV.xl false (3 : Nat) (List.length a) fun (i j : Nat) => Enc.enc (List.getD a i Enc.dflt) j)) then
 true
 else
 greatB
 (rdU (AV.xl false (3 : Nat) (List.length b) fun (i j : Nat) => Enc.enc (List.getD b i Enc.dflt) j)))
 (true = true)
 (((AV.xl false (3 : Nat) (List.length a) fun (i j : Nat) => Enc.enc (List.getD a i Enc.dflt) j) =
 AV.xl false (3 : Nat)
 (List.length
 (rdU (AV.xl false (3 : Nat) (List.length a) fun (i j : Nat) => Enc.enc (List.getD a i Enc.dflt) j)))
 fun (i j : Nat) =>
 Enc.enc
 (List.getD
 (rdU
 (AV.xl false (3 : Nat) (List.length a) fun (i j : Nat) => Enc.enc (List.getD a i Enc.dflt) j))
 i Enc.dflt)
 j) ∧
 (∀ (i : Nat),
 ((-9223372036854775808 : Int) ≤
 Used.bar
 (List.getD
 (rdU
 (AV.xl false (3 : Nat) (List.length a) fun (i j : Nat) =>
 Enc.enc (List.getD a i Enc.dflt) j))
 i Enc.dflt) ∧
 Used.bar
 (List.getD
 (rdU
 (AV.xl false (3 : Nat) (List.length a) fun (i j : Nat) =>
 Enc.enc (List.getD a i Enc.dflt) j))
 i Enc.dflt) ≤
 (9223372036854775807 : Int)) ∧
 ∀ (j : Nat),
 ((-9223372036854775808 : Int) ≤
 List.getD
 (Used.ps
 (List.getD
 (rdU
 (AV.xl false (3 : Nat) (List.length a) fun (i j : Nat) =>
 Enc.enc (List.getD a i Enc.dflt) j))
 i Enc.dflt))
 j (0 : Int) ∧
 List.getD
 (Used.ps
 (List.getD
 (rdU
 (AV.xl false (3 : Nat) (List.length a) fun (i j : Nat) =>
 Enc.enc (List.getD a i Enc.dflt) j))
 i Enc.dflt))
 j (0 : Int) ≤
 (9223372036854775807 : Int)) ∧
 (-9223372036854775808 : Int) ≤
 List.getD
 (Used.at_
 (List.getD
 (rdU
 (AV.xl false (3 : Nat) (List.length a) fun (i j : Nat) =>
 Enc.enc (List.getD a i Enc.dflt) j))
 i Enc.dflt))
 j (0 : Int) ∧
 List.getD
 (Used.at_
 (List.getD
 (rdU
 (AV.xl false (3 : Nat) (List.length a) fun (i j : Nat) =>
 Enc.enc (List.getD a i Enc.dflt) j))
 i Enc.dflt))
 j (0 : Int) ≤
 (9223372036854775807 : Int)) ∧
 ((AV.xl false (3 : Nat) (List.length b) fun (i j : Nat) => Enc.enc (List.getD b i Enc.dflt) j) =
 AV.xl false (3 : Nat)
 (List.length
 (rdU
 (AV.xl false (3 : Nat) (List.length b) fun (i j : Nat) =>
 Enc.enc (List.getD b i Enc.dflt) j)))
 fun (i j : Nat) =>
 Enc.enc
 (List.getD
 (rdU
 (AV.xl false (3 : Nat) (List.length b) fun (i j : Nat) =>
 Enc.enc (List.getD b i Enc.dflt) j))
 i Enc.dflt)
 j) ∧
 (∀ (i : Nat),
 ((-9223372036854775808 : Int) ≤
 Used.bar
 (List.getD
 (rdU
 (AV.xl false (3 : Nat) (List.length b) fun (i j : Nat) =>
 Enc.enc (List.getD b i Enc.dflt) j))
 i Enc.dflt) ∧
 Used.bar
 (List.getD
 (rdU
 (AV.xl false (3 : Nat) (List.length b) fun (i j : Nat) =>
 Enc.enc (List.getD b i Enc.dflt) j))
 i Enc.dflt) ≤
 (9223372036854775807 : Int)) ∧
 ∀ (j : Nat),
 ((-9223372036854775808 : Int) ≤
 List.getD
 (Used.ps
 (List.getD
 (rdU
 (AV.xl false (3 : Nat) (List.length b) fun (i j : Nat) =>
 Enc.enc (List.getD b i Enc.dflt) j))
 i Enc.dflt))
 j (0 : Int) ∧
 List.getD
 (Used.ps
 (List.getD
 (rdU
 (AV.xl false (3 : Nat) (List.length b) fun (i j : Nat) =>
 Enc.enc (List.getD b i Enc.dflt) j))
 i Enc.dflt))
 j (0 : Int) ≤
 (9223372036854775807 : Int)) ∧
 (-9223372036854775808 : Int) ≤
 List.getD
 (Used.at_
 (List.getD
 (rdU
 (AV.xl false (3 : Nat) (List.length b) fun (i j : Nat) =>
 Enc.enc (List.getD b i Enc.dflt) j))
 i Enc.dflt))
 j (0 : Int) ∧
 List.getD
 (Used.at_
 (List.getD
 (rdU
 (AV.xl false (3 : Nat) (List.length b) fun (i j : Nat) =>
 Enc.enc (List.getD b i Enc.dflt) j))
 i Enc.dflt))
 j (0 : Int) ≤
 (9223372036854775807 : Int)) ∧
 bsplit
 (!bsel false
 (printE
 (rdU
 (AV.xl false (3 : Nat) (List.length a) fun (i j : Nat) =>
 Enc.enc (List.getD a i Enc.dflt) j)) !=
 (0 : Int)) ||
 bsel false
 (printE
 (rdU
 (AV.xl false (3 : Nat) (List.length a) fun (i j : Nat) =>
 Enc.enc (List.getD a i Enc.dflt) j)) !=
 (0 : Int)))
 (bsplit
 (!!printE
 (rdU
 (AV.xl false (3 : Nat) (List.length a) fun (i j : Nat) =>
 Enc.enc (List.getD a i Enc.dflt) j)) !=
 (0 : Int) ||
 bsel false
 (printE
 (rdU
 (AV.xl false (3 : Nat) (List.length a) fun (i j : Nat) =>
 Enc.enc (List.getD a i Enc.dflt) j)) !=
 (0 : Int)))
 (bsplit
 (bif
 printE
 (rdU
 (AV.xl false (3 : Nat) (List.length a) fun (i j : Nat) =>
 Enc.enc (List.getD a i Enc.dflt) j)) !=
 (0 : Int) then
 true
 else
 printE
 (rdU
 (AV.xl false (3 : Nat) (List.length b) fun (i j : Nat) =>
 Enc.enc (List.getD b i Enc.dflt) j)) !=
 (0 : Int))
 (bsplit
 (!bsel false
 (printE
 (rdU
 (AV.xl false (3 : Nat) (List.length a) fun (i j : Nat) =>
 Enc.enc (List.getD a i Enc.dflt) j)) ==
 (0 : Int)) ||
 bsel false
 (printE
 (rdU
 (AV.xl false (3 : Nat) (List.length a) fun (i j : Nat) =>
 Enc.enc (List.getD a i Enc.dflt) j)) ==
 (0 : Int)))
 (bsplit
 (!!printE
 (rdU
 (AV.xl false (3 : Nat) (List.length a) fun (i j : Nat) =>
 Enc.enc (List.getD a i Enc.dflt) j)) ==
 (0 : Int) ||
 bsel false
 (printE
 (rdU
 (AV.xl false (3 : Nat) (List.length a) fun (i j : Nat) =>
 Enc.enc (List.getD a i Enc.dflt) j)) ==
 (0 : Int)))
 (bsplit
 (!bsel true
 (bif
 printE
 (rdU
 (AV.xl false (3 : Nat) (List.length a) fun (i j : Nat) =>
 Enc.enc (List.getD a i Enc.dflt) j)) ==
 (0 : Int) then
 true
 else
 printS
 (rdU
 (AV.xl false (3 : Nat) (List.length a) fun (i j : Nat) =>
 Enc.enc (List.getD a i Enc.dflt) j)) ==
 Array.toList (ByteArray.data (ByteArray.mk #[]))) ||
 bsel true
 (bif
 printE
 (rdU
 (AV.xl false (3 : Nat) (List.length a) fun (i j : Nat) =>
 Enc.enc (List.getD a i Enc.dflt) j)) ==
 (0 : Int) then
 true
 else
 printS
 (rdU
 (AV.xl false (3 : Nat) (List.length a) fun (i j : Nat) =>
 Enc.enc (List.getD a i Enc.dflt) j)) ==
 Array.toList (ByteArray.data (ByteArray.mk #[]))))
 (bsplit
 (!bsel true
 (bif
 printE
 (rdU
 (AV.xl false (3 : Nat) (List.length a) fun (i j : Nat) =>
 Enc.enc (List.getD a i Enc.dflt) j)) ==
 (0 : Int) then
 true
 else
 printS
 (rdU
 (AV.xl false (3 : Nat) (List.length a) fun (i j : Nat) =>
 Enc.enc (List.getD a i Enc.dflt) j)) ==
 Array.toList (ByteArray.data (ByteArray.mk #[]))) ||
 bsel true
 (bif
 printE
 (rdU
 (AV.xl false (3 : Nat) (List.length a) fun (i j : Nat) =>
 Enc.enc (List.getD a i Enc.dflt) j)) ==
 (0 : Int) then
 true
 else
 printS
 (rdU
 (AV.xl false (3 : Nat) (List.length a) fun (i j : Nat) =>
 Enc.enc (List.getD a i Enc.dflt) j)) ==
 Array.toList (ByteArray.data (ByteArray.mk #[]))))
 (bsplit
 (!(bsel true
 (bif
 printE
 (rdU
 (AV.xl false (3 : Nat) (List.length a) fun (i j : Nat) =>
 Enc.enc (List.getD a i Enc.dflt) j)) ==
 (0 : Int) then
 true
 else
 printS
 (rdU
 (AV.xl false (3 : Nat) (List.length a) fun (i j : Nat) =>
 Enc.enc (List.getD a i Enc.dflt) j)) ==
 Array.toList (ByteArray.data (ByteArray.mk #[]))) &&
 bsel false
 (printE
 (rdU
 (AV.xl false (3 : Nat) (List.length b) fun (i j : Nat) =>
 Enc.enc (List.getD b i Enc.dflt) j)) ==
 (0 : Int))) ||
 bsel true
 (bif
 printE
 (rdU
 (AV.xl false (3 : Nat) (List.length a) fun (i j : Nat) =>
 Enc.enc (List.getD a i Enc.dflt) j)) ==
 (0 : Int) then
 true
 else
 printS
 (rdU
 (AV.xl false (3 : Nat) (List.length a) fun (i j : Nat) =>
 Enc.enc (List.getD a i Enc.dflt) j)) ==
 Array.toList (ByteArray.data (ByteArray.mk #[]))) &&
 bsel false
 (printE
 (rdU
 (AV.xl false (3 : Nat) (List.length b) fun (i j : Nat) =>
 Enc.enc (List.getD b i Enc.dflt) j)) ==
 (0 : Int)))
 (bsplit
 (!bsel true
 (bif
 printE
 (rdU
 (AV.xl false (3 : Nat) (List.length a) fun (i j : Nat) =>
 Enc.enc (List.getD a i Enc.dflt) j)) ==
 (0 : Int) then
 true
 else
 printS
 (rdU
 (AV.xl false (3 : Nat) (List.length a) fun (i j : Nat) =>
 Enc.enc (List.getD a i Enc.dflt) j)) ==
 Array.toList (ByteArray.data (ByteArray.mk #[]))) ||
 bsel true
 (bif
 printE
 (rdU
 (AV.xl false (3 : Nat) (List.length a) fun (i j : Nat) =>
 Enc.enc (List.getD a i Enc.dflt) j)) ==
 (0 : Int) then
 true
 else
 printS
 (rdU
 (AV.xl false (3 : Nat) (List.length a) fun (i j : Nat) =>
 Enc.enc (List.getD a i Enc.dflt) j)) ==
 Array.toList (ByteArray.data (ByteArray.mk #[]))))
 (bsplit
 (!bsel true
 (bif
 printE
 (rdU
 (AV.xl false (3 : Nat) (List.length a) fun (i j : Nat) =>
 Enc.enc (List.getD a i Enc.dflt) j)) ==
 (0 : Int) then
 true
 else
 printS
 (rdU
 (AV.xl false (3 : Nat) (List.length a) fun (i j : Nat) =>
 Enc.enc (List.getD a i Enc.dflt) j)) ==
 Array.toList (ByteArray.data (ByteArray.mk #[]))) ||
 (!!printE
 (rdU
 (AV.xl false (3 : Nat) (List.length b) fun (i j : Nat) =>
 Enc.enc (List.getD b i Enc.dflt) j)) ==
 (0 : Int) ||
 bsel true
 (bif
 printE
 (rdU
 (AV.xl false (3 : Nat) (List.length a) fun (i j : Nat) =>
 Enc.enc (List.getD a i Enc.dflt) j)) ==
 (0 : Int) then
 true
 else
 printS
 (rdU
 (AV.xl false (3 : Nat) (List.length a) fun (i j : Nat) =>
 Enc.enc (List.getD a i Enc.dflt) j)) ==
 Array.toList (ByteArray.data (ByteArray.mk #[]))) &&
 bsel false
 (printE
 (rdU
 (AV.xl false (3 : Nat) (List.length b) fun (i j : Nat) =>
 Enc.enc (List.getD b i Enc.dflt) j)) ==
 (0 : Int))))
 (bsplit
 ((!bif
 printE
 (rdU
 (AV.xl false (3 : Nat) (List.length a) fun (i j : Nat) =>
 Enc.enc (List.getD a i Enc.dflt) j)) ==
 (0 : Int) then
 true
 else
 printS
 (rdU
 (AV.xl false (3 : Nat) (List.length a) fun (i j : Nat) =>
 Enc.enc (List.getD a i Enc.dflt) j)) ==
 Array.toList (ByteArray.data (ByteArray.mk #[]))) ||
 bsel true
 (bif
 printE
 (rdU
 (AV.xl false (3 : Nat) (List.length a) fun (i j : Nat) =>
 Enc.enc (List.getD a i Enc.dflt) j)) ==
 (0 : Int) then
 true
 else
 printS
 (rdU
 (AV.xl false (3 : Nat) (List.length a) fun (i j : Nat) =>
 Enc.enc (List.getD a i Enc.dflt) j)) ==
 Array.toList (ByteArray.data (ByteArray.mk #[]))))
 (bsplit
 ((!bif
 bif
 printE
 (rdU
 (AV.xl false (3 : Nat) (List.length a) fun (i j : Nat) =>
 Enc.enc (List.getD a i Enc.dflt) j)) ==
 (0 : Int) then
 true
 else
 printS
 (rdU
 (AV.xl false (3 : Nat) (List.length a) fun (i j : Nat) =>
 Enc.enc (List.getD a i Enc.dflt) j)) ==
 Array.toList (ByteArray.data (ByteArray.mk #[])) then
 bif
 printE
 (rdU
 (AV.xl false (3 : Nat) (List.length b) fun (i j : Nat) =>
 Enc.enc (List.getD b i Enc.dflt) j)) ==
 (0 : Int) then
 true
 else
 printS
 (rdU
 (AV.xl false (3 : Nat) (List.length b) fun (i j : Nat) =>
 Enc.enc (List.getD b i Enc.dflt) j)) ==
 Array.toList (ByteArray.data (ByteArray.mk #[]))
 else false) ||
 bsel true
 (bif
 bif
 printE
 (rdU
 (AV.xl false (3 : Nat) (List.length a) fun (i j : Nat) =>
 Enc.enc (List.getD a i Enc.dflt) j)) ==
 (0 : Int) then
 true
 else
 printS
 (rdU
 (AV.xl false (3 : Nat) (List.length a) fun (i j : Nat) =>
 Enc.enc (List.getD a i Enc.dflt) j)) ==
 Array.toList (ByteArray.data (ByteArray.mk #[])) then
 bif
 printE
 (rdU
 (AV.xl false (3 : Nat) (List.length b) fun (i j : Nat) =>
 Enc.enc (List.getD b i Enc.dflt) j)) ==
 (0 : Int) then
 true
 else
 printS
 (rdU
 (AV.xl false (3 : Nat) (List.length b) fun (i j : Nat) =>
 Enc.enc (List.getD b i Enc.dflt) j)) ==
 Array.toList (ByteArray.data (ByteArray.mk #[]))
 else false))
 ((bif
 bif
 bif
 printE
 (rdU
 (AV.xl false (3 : Nat) (List.length a)
 fun (i j : Nat) =>
 Enc.enc (List.getD a i Enc.dflt) j)) ==
 (0 : Int) then
 true
 else
 printS
 (rdU
 (AV.xl false (3 : Nat) (List.length a) fun (i j : Nat) =>
 Enc.enc (List.getD a i Enc.dflt) j)) ==
 Array.toList (ByteArray.data (ByteArray.mk #[])) then
 bif
 printE
 (rdU
 (AV.xl false (3 : Nat) (List.length b) fun (i j : Nat) =>
 Enc.enc (List.getD b i Enc.dflt) j)) ==
 (0 : Int) then
 true
 else
 printS
 (rdU
 (AV.xl false (3 : Nat) (List.length b) fun (i j : Nat) =>
 Enc.enc (List.getD b i Enc.dflt) j)) ==
 Array.toList (ByteArray.data (ByteArray.mk #[]))
 else false then
 true
 else false) =
 true)
 False)
 False)
 False)
 False)
 False)
 False)
 False)
 False)
 False)
 (bsplit
 (!bsel true
 ((↑(Lib.countByte
 (printS
 (rdU
 (AV.xl false (3 : Nat) (List.length a) fun (i j : Nat) =>
 Enc.enc (List.getD a i Enc.dflt) j)))
 (10 : UInt8)) :
 Int) ==
 (↑(List.length a) : Int)) ||
 bsel true
 ((↑(Lib.countByte
 (printS
 (rdU
 (AV.xl false (3 : Nat) (List.length a) fun (i j : Nat) =>
 Enc.enc (List.getD a i Enc.dflt) j)))
 (10 : UInt8)) :
 Int) ==
 (↑(List.length a) : Int)))
 (bsplit
 (!bsel true
 ((↑(Lib.countByte
 (printS
 (rdU
 (AV.xl false (3 : Nat) (List.length a) fun (i j : Nat) =>
 Enc.enc (List.getD a i Enc.dflt) j)))
 (10 : UInt8)) :
 Int) ==
 (↑(List.length a) : Int)) ||
 bsel true
 ((↑(Lib.countByte
 (printS
 (rdU
 (AV.xl false (3 : Nat) (List.length a) fun (i j : Nat) =>
 Enc.enc (List.getD a i Enc.dflt) j)))
 (10 : UInt8)) :
 Int) ==
 (↑(List.length a) : Int)))
 (bsplit
 (!bsel true
 ((↑(Lib.countByte
 (printS
 (rdU
 (AV.xl false (3 : Nat) (List.length a) fun (i j : Nat) =>
 Enc.enc (List.getD a i Enc.dflt) j)))
 (10 : UInt8)) :
 Int) ==
 (↑(List.length a) : Int)) ||
 bsel true
 ((↑(Lib.countByte
 (printS
 (rdU
 (AV.xl false (3 : Nat) (List.length a) fun (i j : Nat) =>
 Enc.enc (List.getD a i Enc.dflt) j)))
 (10 : UInt8)) :
 Int) ==
 (↑(List.length a) : Int)))
 (bsplit
 (!bsel true
 ((↑(Lib.countByte
 (printS
 (rdU
 (AV.xl false (3 : Nat) (List.length a) fun (i j : Nat) =>
 Enc.enc (List.getD a i Enc.dflt) j)))
 (10 : UInt8)) :
 Int) ==
 (↑(List.length a) : Int)) ||
 bsel true
 ((↑(Lib.countByte
 (printS
 (rdU
 (AV.xl false (3 : Nat) (List.length a) fun (i j : Nat) =>
 Enc.enc (List.getD a i Enc.dflt) j)))
 (10 : UInt8)) :
 Int) ==
 (↑(List.length a) : Int)))
 ((bsel true
 ((↑(Lib.countByte
 (printS
 (rdU
 (AV.xl false (3 : Nat) (List.length a) fun (i j : Nat) =>
 Enc.enc (List.getD a i Enc.dflt) j)))
 (10 : UInt8)) :
 Int) ==
 (↑(List.length a) : Int)) =
 true →
 (AV.xl false (3 : Nat) (List.length a) fun (i j : Nat) =>
 Enc.enc (List.getD a i Enc.dflt) j) =
 AV.xl false (3 : Nat)
 (List.length
 (rdU
 (AV.xl false (3 : Nat) (List.length a) fun (i j : Nat) =>
 Enc.enc (List.getD a i Enc.dflt) j)))
 fun (i j : Nat) =>
 Enc.enc
 (List.getD
 (rdU
 (AV.xl false (3 : Nat) (List.length a) fun (i j : Nat) =>
 Enc.enc (List.getD a i Enc.dflt) j))
 i Enc.dflt)
 j) ∧
 (bsel true
 ((↑(Lib.countByte
 (printS
 (rdU
 (AV.xl false (3 : Nat) (List.length a) fun (i j : Nat) =>
 Enc.enc (List.getD a i Enc.dflt) j)))
 (10 : UInt8)) :
 Int) ==
 (↑(List.length a) : Int)) =
 true →
 (AV.xl false (3 : Nat) (List.length b) fun (i j : Nat) =>
 Enc.enc (List.getD b i Enc.dflt) j) =
 AV.xl false (3 : Nat)
 (List.length
 (rdU
 (AV.xl false (3 : Nat) (List.length b) fun (i j : Nat) =>
 Enc.enc (List.getD b i Enc.dflt) j)))
 fun (i j : Nat) =>
 Enc.enc
 (List.getD
 (rdU
 (AV.xl false (3 : Nat) (List.length b) fun (i j : Nat) =>
 Enc.enc (List.getD b i Enc.dflt) j))
 i Enc.dflt)
 j) ∧
 bsplit
 (!bsel true
 ((↑(Lib.countByte
 (printS
 (rdU
 (AV.xl false (3 : Nat) (List.length a) fun (i j : Nat) =>
 Enc.enc (List.getD a i Enc.dflt) j)))
 (10 : UInt8)) :
 Int) ==
 (↑(List.length a) : Int)) ||
 bsel true
 ((↑(Lib.countByte
 (printS
 (rdU
 (AV.xl false (3 : Nat) (List.length a) fun (i j : Nat) =>
 Enc.enc (List.getD a i Enc.dflt) j)))
 (10 : UInt8)) :
 Int) ==
 (↑(List.length a) : Int)))
 (bsplit
 (!bsel true
 ((↑(Lib.countByte
 (printS
 (rdU
 (AV.xl false (3 : Nat) (List.length a) fun (i j : Nat) =>
 Enc.enc (List.getD a i Enc.dflt) j)))
 (10 : UInt8)) :
 Int) ==
 (↑(List.length a) : Int)) ||
 bsel true
 ((↑(Lib.countByte
 (printS
 (rdU
 (AV.xl false (3 : Nat) (List.length a) fun (i j : Nat) =>
 Enc.enc (List.getD a i Enc.dflt) j)))
 (10 : UInt8)) :
 Int) ==
 (↑(List.length a) : Int)))
 (bsplit
 (!(↑(Lib.countByte
 (printS
 (rdU
 (AV.xl false (3 : Nat) (List.length a) fun (i j : Nat) =>
 Enc.enc (List.getD a i Enc.dflt) j)))
 (10 : UInt8)) :
 Int) ==
 (↑(List.length a) : Int) ||
 bsel true
 ((↑(Lib.countByte
 (printS
 (rdU
 (AV.xl false (3 : Nat) (List.length a) fun (i j : Nat) =>
 Enc.enc (List.getD a i Enc.dflt) j)))
 (10 : UInt8)) :
 Int) ==
 (↑(List.length a) : Int)))
 (bsplit
 ((!bif
 (↑(Lib.countByte
 (printS
 (rdU
 (AV.xl false (3 : Nat) (List.length a)
 fun (i j : Nat) =>
 Enc.enc (List.getD a i Enc.dflt) j)))
 (10 : UInt8)) :
 Int) ==
 (↑(List.length a) : Int) then
 (printS
 (rdU
 (AV.xl false (3 : Nat) (List.length a) fun (i j : Nat) =>
 Enc.enc (List.getD a i Enc.dflt) j)) ==
 printS
 (rdU
 (AV.xl false (3 : Nat) (List.length b) fun (i j : Nat) =>
 Enc.enc (List.getD b i Enc.dflt) j))) ==
 decide
 (rdU
 (AV.xl false (3 : Nat) (List.length a) fun (i j : Nat) =>
 Enc.enc (List.getD a i Enc.dflt) j) =
 rdU
 (AV.xl false (3 : Nat) (List.length b) fun (i j : Nat) =>
 Enc.enc (List.getD b i Enc.dflt) j))
 else false) ||
 bsel true
 (bif
 (↑(Lib.countByte
 (printS
 (rdU
 (AV.xl false (3 : Nat) (List.length a)
 fun (i j : Nat) =>
 Enc.enc (List.getD a i Enc.dflt) j)))
 (10 : UInt8)) :
 Int) ==
 (↑(List.length a) : Int) then
 (printS
 (rdU
 (AV.xl false (3 : Nat) (List.length a) fun (i j : Nat) =>
 Enc.enc (List.getD a i Enc.dflt) j)) ==
 printS
 (rdU
 (AV.xl false (3 : Nat) (List.length b) fun (i j : Nat) =>
 Enc.enc (List.getD b i Enc.dflt) j))) ==
 decide
 (rdU
 (AV.xl false (3 : Nat) (List.length a) fun (i j : Nat) =>
 Enc.enc (List.getD a i Enc.dflt) j) =
 rdU
 (AV.xl false (3 : Nat) (List.length b) fun (i j : Nat) =>
 Enc.enc (List.getD b i Enc.dflt) j))
 else false))
 ((bif
 bif
 (↑(Lib.countByte
 (printS
 (rdU
 (AV.xl false (3 : Nat) (List.length a)
 fun (i j : Nat) =>
 Enc.enc (List.getD a i Enc.dflt) j)))
 (10 : UInt8)) :
 Int) ==
 (↑(List.length a) : Int) then
 (printS
 (rdU
 (AV.xl false (3 : Nat) (List.length a) fun (i j : Nat) =>
 Enc.enc (List.getD a i Enc.dflt) j)) ==
 printS
 (rdU
 (AV.xl false (3 : Nat) (List.length b) fun (i j : Nat) =>
 Enc.enc (List.getD b i Enc.dflt) j))) ==
 decide
 (rdU
 (AV.xl false (3 : Nat) (List.length a) fun (i j : Nat) =>
 Enc.enc (List.getD a i Enc.dflt) j) =
 rdU
 (AV.xl false (3 : Nat) (List.length b) fun (i j : Nat) =>
 Enc.enc (List.getD b i Enc.dflt) j))
 else false then
 true
 else false) =
 true)
 False)
 False)
 False)
 False)
 False)
 False)
 False)
 False))
 False)
 False))
 False)
 False := by
  intro hbn
  simp only [rdU_eq, eq_self, true_and, and_true, implies_true, bsel_true, bsel_false, vc_own, bif_or, bif_and, vc_gdb, vc_db]
  refine bsplit_iff.2 ⟨fun _ => trivial, fun _ => ⟨ha, hb, bsplit_iff.2 ⟨fun h => ?_, fun h => ?_⟩⟩⟩
  · have X : ∀ l, (printE l == 0 || printS l == []) = true := fun l => by
      by_cases e : printE l = 0
      · rw [e]; rfl
      · rw [law_err e]; simp
    rw [X a, X b]
    generalize (printE b == 0) = p
    cases p <;> simp [bsplit]
  · simp only [Bool.or_eq_false_iff, bne_eq_false_iff_eq] at h
    rw [law_count h.1, law_inj h.1 h.2]
    simp
theorem TN_sound {G : List (Nat × Obj)} (hG : TabIn G) (hA : PureCall Tryd.prog G 5 [] (.b true)) : TbSound Tryd.prog (TN G) := by
  refine TbSound.plus (TbSound.plus (TbSound.plus (TbSound.plus (TbSound.plus tb0_sound (PureT.mono great_T)) (print_T hG)) (PureT.mono same_T)) (PureT.mono count_T)) ?_
  intro xs ps r h hp
  unfold awake_t at h
  split at h
  · cases h; exact hA
  · cases h
theorem texts_of {G : List (Nat × Obj)} (hG : TabIn G) (hA : PureCall Tryd.prog G 5 [] (.b true)) (a b : List Used) (ha : InR a) (hb : InR b) : PureCall Tryd.prog G 3 [slE a, slE b] (.b true) :=
  pure_of_vc mixed (TN_sound hG hA) (Eq.mp (by kernel_rfl) (texts_vc G a b ha hb) : vcFn Tryd.prog (TN G) 3 .auto [slE a, slE b] (.b true))
end Go.Td
