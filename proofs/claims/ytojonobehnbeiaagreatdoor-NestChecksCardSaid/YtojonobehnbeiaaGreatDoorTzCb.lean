/- kingpostref45.bar and Check. -/
import Derived.Test.YtojonobehnbeiaaGreatDoorTzCa
set_option linter.unusedSimpArgs false
namespace Go.Tz
open Go Go.Sx Go.Proofs
set_option maxRecDepth 100000
set_option maxHeartbeats 4000000

theorem asc_le {l : List Int} {n : Nat} (h : ∀ i, i < l.length → 0 ≤ l.getD i 0 ∧ l.getD i 0 < n) (ha : ascL l = true) : l.length ≤ n := by
  have hi : ∀ i, i < l.length → (i : Int) ≤ l.getD i 0 := by
    intro i
    induction i with
    | zero => intro hi; exact (h 0 hi).1
    | succ i ih =>
      intro hi
      have h1 := ih (by omega)
      have h2 := of_decide_eq_true (allN_true ha i (by omega))
      omega
  by_cases hz : l.length = 0
  · omega
  have h1 := hi (l.length - 1) (by omega)
  have h2 := (h (l.length - 1) (by omega)).2
  omega
def usedAt (l : List Used) (i : Nat) : Used := l.getD i ⟨0, [], []⟩
/-- The pieces of the first used bars. -/
def seenU (l : List Used) : Nat → List Int
  | 0 => []
  | z + 1 => seenU l z ++ (usedAt l z).ps
def memI (s : List Int) (n : Int) : Bool := s.any fun m => m == n
def laidOk (all : List Cut) (bs : List Bar) (k : Int) (u : Used) : Bool := fitsOk (barAt bs u) (lensL all u.ps) k
def laidAt (all : List Cut) (bs : List Bar) (k : Int) (u : Used) : List Int := fitsAt (barAt bs u) (lensL all u.ps) k
/-- The error of the i-th used bar, where those ahead of it have none. -/
def oneE (all : List Cut) (bs : List Bar) (k : Int) (l : List Used) (i : Nat) : Int :=
  bif kindE all bs (usedAt l i) != 0 then kindE all bs (usedAt l i)
  else bif (usedAt l i).ps.any (memI (seenU l i)) then 7
  else bif !laidOk all bs k (usedAt l i) then 22
  else bif !decide (laidAt all bs k (usedAt l i) = (usedAt l i).at_) then 9
  else bif ltB (barAt bs (usedAt l i)).n (usedN (l.take (i + 1)) (usedAt l i).bar) then 22 else 0
theorem memI_app (s t : List Int) (n : Int) : memI (s ++ t) n = (memI s n || memI t n) := List.any_append
theorem hasB_memI (s : List Int) (n : Int) : hasB s n = memI s n := rfl
theorem kind_bar {all : List Cut} {bs : List Bar} {u : Used} (h : (ltB u.bar 0 || leB (bs.length : Int) u.bar) = true) : kindE all bs u = 2 := by unfold kindE; rw [h]; rfl
theorem kind_empty {all : List Cut} {bs : List Bar} {u : Used} (h : (ltB u.bar 0 || leB (bs.length : Int) u.bar) = false) (h2 : u.ps.length = 0) : kindE all bs u = 5 := by unfold kindE; rw [h, h2]; rfl
theorem kind_first {all : List Cut} {bs : List Bar} {u : Used} (h : (ltB u.bar 0 || leB (bs.length : Int) u.bar) = false) (h2 : u.ps.length ≠ 0) : kindE all bs u = firstN (pcE all (barAt bs u) u.ps) u.ps.length 0 := by
  unfold kindE
  rw [h, show Nat.beq u.ps.length 0 = false from (beq_cases u.ps.length 0).elim (fun h => absurd h.2 (by omega)) fun h => h.1]
  rfl
section
variable {all : List Cut} {bs : List Bar} {k : Int} {l : List Used} {i : Nat}
theorem one_kind (h : kindE all bs (usedAt l i) ≠ 0) : oneE all bs k l i = kindE all bs (usedAt l i) := by unfold oneE; rw [bne_iff_ne.2 h]; rfl
theorem one_seen (h : kindE all bs (usedAt l i) = 0) (h2 : (usedAt l i).ps.any (memI (seenU l i)) = true) : oneE all bs k l i = 7 := by unfold oneE; rw [h, h2]; rfl
theorem one_lay (h : kindE all bs (usedAt l i) = 0) (h2 : (usedAt l i).ps.any (memI (seenU l i)) = false) (h3 : laidOk all bs k (usedAt l i) = false) : oneE all bs k l i = 22 := by unfold oneE; rw [h, h2, h3]; rfl
theorem one_at (h : kindE all bs (usedAt l i) = 0) (h2 : (usedAt l i).ps.any (memI (seenU l i)) = false) (h3 : laidOk all bs k (usedAt l i) = true) (h4 : laidAt all bs k (usedAt l i) ≠ (usedAt l i).at_) : oneE all bs k l i = 9 := by
  unfold oneE; rw [h, h2, h3, decide_eq_false h4]; rfl
theorem one_n (h : kindE all bs (usedAt l i) = 0) (h2 : (usedAt l i).ps.any (memI (seenU l i)) = false) (h3 : laidOk all bs k (usedAt l i) = true) (h4 : laidAt all bs k (usedAt l i) = (usedAt l i).at_) :
    oneE all bs k l i = bif ltB (barAt bs (usedAt l i)).n (usedN (l.take (i + 1)) (usedAt l i).bar) then 22 else 0 := by
  unfold oneE; rw [h, h2, h3, decide_eq_true h4]; rfl
end
theorem seen_mono {l : List Used} {n : Int} {a b : Nat} (h : a ≤ b) (hm : memI (seenU l a) n = true) : memI (seenU l b) n = true := by
  induction b with
  | zero => rw [show a = 0 by omega] at hm; exact hm
  | succ b ih =>
    by_cases e : a = b + 1
    · rw [← e]; exact hm
    · rw [seenU, memI_app, ih (by omega)]; rfl
theorem laid_len {all : List Cut} {bs : List Bar} {k : Int} {u : Used} (h : laidOk all bs k u = true) : (laidAt all bs k u).length = u.ps.length := by
  unfold laidAt
  rw [fitsAt_len h, lens_len]
def rbar_an (all : List Cut) (bs : List Bar) (k : Int) (l : List Used) (i : Nat) : Ann :=
  .two .auto (.two .auto (.two .auto (.two .auto (.two (.two .auto (.one (.loop Nat (fun σ z => [(0, σ.tm 0), (1, σ.tm 1), (2, σ.tm 2), (3, σ.tm 3), (4, σ.tm 4), (11, σ.tm 11), (12, .i z)]) (fun σ z => []) 0 (fun σ z => z ≤ (usedAt l i).ps.length ∧ ∀ a, a < z → pcE all (barAt bs (usedAt l i)) (usedAt l i).ps a = 0) (fun σ z => (usedAt l i).ps.length - z) .auto))) (.two (.two .auto (.one (.loop Nat (fun σ z => [(0, σ.tm 0), (1, σ.tm 1), (2, σ.tm 2), (3, σ.tm 3), (4, σ.tm 4), (11, σ.tm 11), (14, .i z)]) (fun σ z => []) 0 (fun σ z => z ≤ (usedAt l i).ps.length ∧ ∀ a, a < z → memI (seenU l i) ((usedAt l i).ps.getD a 0) = false) (fun σ z => (usedAt l i).ps.length - z) (.two .auto (.two (.one (.two .auto (.one (.loop Nat (fun σ z => [(0, σ.tm 0), (1, σ.tm 1), (2, σ.tm 2), (3, σ.tm 3), (4, σ.tm 4), (11, σ.tm 11), (14, σ.tm 14), (15, .i z)]) (fun σ z => []) 0 (fun σ z => z ≤ i ∧ memI (seenU l z) ((usedAt l i).ps.getD (AV.int (σ.tm 14)).toNat 0) = false) (fun σ z => i - z) .auto)))) .auto))))) (.two .auto (.two .auto (.two .auto (.two (.two .auto (.one (.loop Nat (fun σ z => [(1, σ.tm 1), (3, σ.tm 3), (4, σ.tm 4), (11, σ.tm 11), (16, σ.tm 16), (18, .i z)]) (fun σ z => []) 0 (fun σ z => z ≤ (laidAt all bs k (usedAt l i)).length ∧ ∀ a, a < z → (laidAt all bs k (usedAt l i)).getD a 0 = (usedAt l i).at_.getD a 0) (fun σ z => (laidAt all bs k (usedAt l i)).length - z) .auto))) .auto)))))))))
def Trb2 : Tb := (((T0.plus 90 sect_t).plus 91 hasI_t).plus 92 laid_t).plus 93 used_t
theorem Trb2_sound : TbSound Tryz.prog Trb2 := TbSound.plus (TbSound.plus (TbSound.plus (TbSound.plus tb0_sound sectR_T) has_T) laid_T) used_T
theorem rbar_vc (all : List Cut) (bs : List Bar) (k : Int) (l : List Used) (i : Nat) (ha : all.length ≤ 64) (hi : i < l.length) (hl : l.length ≤ 64) : bndL [slX 4 all, slX 6 bs, AV.v (Value.int .i64 k), slX 3 l, AV.v (Value.int .i64 (i : Int))] → bsplit (DB.db ((0 : Int) ≤ (i : Int) ∧ (i : Int) < (l.length : Int))) (bsplit (!bsel false (ltB (Used.bar (List.getD l (Int.toNat (i : Int)) Enc.dflt)) (0 : Int)) || bsel false (ltB (Used.bar (List.getD l (Int.toNat (i : Int)) Enc.dflt)) (0 : Int))) (bsplit (!bsel false (ltB (Used.bar (List.getD l (Int.toNat (i : Int)) Enc.dflt)) (0 : Int)) || bsel
 false (ltB (Used.bar (List.getD l (Int.toNat (i : Int)) Enc.dflt)) (0 : Int))) (bsplit (!bsel false (ltB (Used.bar (List.getD l (Int.toNat (i : Int)) Enc.dflt)) (0 : Int)) || bsel false (ltB (Used.bar (List.getD l (Int.toNat (i : Int)) Enc.dflt)) (0 : Int))) (bsplit (!bsel false (ltB (Used.bar (List.getD l (Int.toNat (i : Int)) Enc.dflt)) (0 : Int)) || bsel false (ltB (Used.bar (List.getD l (Int.toNat (i : Int)) Enc.dflt)) (0 : Int))) (bsplit (!!ltB (Used.bar (List.getD l (Int.toNat (i : Int)) Enc.dflt)) (0 : Int) || bsel false (ltB (Used.bar (List.getD l (Int.toNat (i : Int)) Enc.dflt)) (0 :
 Int))) (bsplit (bif ltB (Used.bar (List.getD l (Int.toNat (i : Int)) Enc.dflt)) (0 : Int) then true else leB (bs.length : Int) (Used.bar (List.getD l (Int.toNat (i : Int)) Enc.dflt))) (IntKind.i64 = .i64 ∧ (2 : Int) = oneE all bs k l i) (bsplit ((↑(List.length (Used.ps (List.getD l (Int.toNat (i : Int)) Enc.dflt))) : Int) == (0 : Int)) (IntKind.i64 = .i64 ∧ (5 : Int) = oneE all bs k l i) ((∃ (z : Nat), ((z ≤ List.length (Used.ps (usedAt l i)) ∧ ∀ (a : Nat), a < z → pcE all (barAt bs (usedAt l i)) (Used.ps (usedAt l i)) a = (0 : Int)) ∧ avM (slX 4 all) (slX 4 all) ∧ avM (slX 6 bs) (slX 6 bs) ∧
 (IntKind.i64 = .i64 ∧ k = k) ∧ avM (slX 3 l) (slX 3 l) ∧ (IntKind.i64 = .i64 ∧ (i : Int) = (i : Int)) ∧ (nat_lit 0 = 0 ∧ 0 = 0) ∧ IntKind.i64 = .i64 ∧ (0 : Int) = (z : Int)) ∧ 50 = 50 ∧ 3 = 3 ∧ ((IntKind.i64 = .i64 ∧ Used.bar (List.getD l (Int.toNat (i : Int)) Enc.dflt) = Used.bar (List.getD l (Int.toNat (i : Int)) Enc.dflt)) ∧ avM (AV.xl false 1 (List.length (Used.ps (List.getD l (Int.toNat (i : Int)) Enc.dflt))) fun (i_1 j : Nat) => AV.v (Value.int .i64 (List.getD (Used.ps (List.getD l (Int.toNat (i : Int)) Enc.dflt)) i_1 Enc.dflt))) (AV.xl false 1 (List.length (Used.ps (List.getD l
 (Int.toNat (i : Int)) Enc.dflt))) fun (i_1 j : Nat) => AV.v (Value.int .i64 (List.getD (Used.ps (List.getD l (Int.toNat (i : Int)) Enc.dflt)) i_1 Enc.dflt)))) ∧ avM (AV.xl false 1 (List.length (Used.at_ (List.getD l (Int.toNat (i : Int)) Enc.dflt))) fun (i_1 j : Nat) => AV.v (Value.int .i64 (List.getD (Used.at_ (List.getD l (Int.toNat (i : Int)) Enc.dflt)) i_1 Enc.dflt))) (AV.xl false 1 (List.length (Used.at_ (List.getD l (Int.toNat (i : Int)) Enc.dflt))) fun (i_1 j : Nat) => AV.v (Value.int .i64 (List.getD (Used.at_ (List.getD l (Int.toNat (i : Int)) Enc.dflt)) i_1 Enc.dflt)))) ∧ ∀ (z : Nat),
 (z ≤ List.length (Used.ps (usedAt l i)) ∧ ∀ (a : Nat), a < z → pcE all (barAt bs (usedAt l i)) (Used.ps (usedAt l i)) a = (0 : Int)) → bsplit (ltB (z : Int) (↑(List.length (Used.ps (List.getD l (Int.toNat (i : Int)) Enc.dflt))) : Int)) (bsplit (DB.db ((0 : Int) ≤ (z : Int) ∧ (z : Int) < (↑(List.length (Used.ps (List.getD l (Int.toNat (i : Int)) Enc.dflt))) : Int))) (bsplit (!bsel false (ltB (List.getD (Used.ps (List.getD l (Int.toNat (i : Int)) Enc.dflt)) (Int.toNat (z : Int)) Enc.dflt) (0 : Int)) || bsel false (ltB (List.getD (Used.ps (List.getD l (Int.toNat (i : Int)) Enc.dflt)) (Int.toNat (z
 : Int)) Enc.dflt) (0 : Int))) (bsplit (!bsel false (ltB (List.getD (Used.ps (List.getD l (Int.toNat (i : Int)) Enc.dflt)) (Int.toNat (z : Int)) Enc.dflt) (0 : Int)) || bsel false (ltB (List.getD (Used.ps (List.getD l (Int.toNat (i : Int)) Enc.dflt)) (Int.toNat (z : Int)) Enc.dflt) (0 : Int))) (bsplit (!bsel false (ltB (List.getD (Used.ps (List.getD l (Int.toNat (i : Int)) Enc.dflt)) (Int.toNat (z : Int)) Enc.dflt) (0 : Int)) || bsel false (ltB (List.getD (Used.ps (List.getD l (Int.toNat (i : Int)) Enc.dflt)) (Int.toNat (z : Int)) Enc.dflt) (0 : Int))) (bsplit (!!ltB (List.getD (Used.ps
 (List.getD l (Int.toNat (i : Int)) Enc.dflt)) (Int.toNat (z : Int)) Enc.dflt) (0 : Int) || bsel false (ltB (List.getD (Used.ps (List.getD l (Int.toNat (i : Int)) Enc.dflt)) (Int.toNat (z : Int)) Enc.dflt) (0 : Int))) (bsplit (bif ltB (List.getD (Used.ps (List.getD l (Int.toNat (i : Int)) Enc.dflt)) (Int.toNat (z : Int)) Enc.dflt) (0 : Int) then true else leB (all.length : Int) (List.getD (Used.ps (List.getD l (Int.toNat (i : Int)) Enc.dflt)) (Int.toNat (z : Int)) Enc.dflt)) (IntKind.i64 = .i64 ∧ (2 : Int) = oneE all bs k l i) (bsplit (!bsel true (ltB (0 : Int) (z : Int)) || bsel true (ltB (0 :
 Int) (z : Int))) (bsplit (!bsel true (ltB (0 : Int) (z : Int)) || bsel true (ltB (0 : Int) (z : Int))) (bsplit (!bsel true (ltB (0 : Int) (z : Int)) || DB.db (inK .i64 ((z : Int) - (1 : Int)))) (bsplit (!bsel true (ltB (0 : Int) (z : Int)) || bsel true (ltB (0 : Int) (z : Int))) (bsplit (!bsel true (ltB (0 : Int) (z : Int)) || bsel true (ltB (0 : Int) (z : Int))) (bsplit (!bsel true (ltB (0 : Int) (z : Int)) || DB.db ((0 : Int) ≤ (z : Int) - (1 : Int) ∧ (z : Int) - (1 : Int) < (↑(List.length (Used.ps (List.getD l (Int.toNat (i : Int)) Enc.dflt))) : Int))) (bsplit (!bsel true (ltB (0 : Int) (z :
 Int)) || bsel true (ltB (0 : Int) (z : Int))) (bsplit (!bsel true (ltB (0 : Int) (z : Int)) || bsel true (ltB (0 : Int) (z : Int))) (bsplit (!bsel true (ltB (0 : Int) (z : Int)) || bsel true (ltB (0 : Int) (z : Int))) (bsplit (!ltB (0 : Int) (z : Int) || bsel true (ltB (0 : Int) (z : Int))) (bsplit (bif ltB (0 : Int) (z : Int) then leB (List.getD (Used.ps (List.getD l (Int.toNat (i : Int)) Enc.dflt)) (Int.toNat (z : Int)) Enc.dflt) (List.getD (Used.ps (List.getD l (Int.toNat (i : Int)) Enc.dflt)) (Int.toNat ((z : Int) - (1 : Int))) Enc.dflt) else false) (IntKind.i64 = .i64 ∧ (10 : Int) = oneE
 all bs k l i) (bsplit (DB.db ((0 : Int) ≤ List.getD (Used.ps (List.getD l (Int.toNat (i : Int)) Enc.dflt)) (Int.toNat (z : Int)) Enc.dflt ∧ List.getD (Used.ps (List.getD l (Int.toNat (i : Int)) Enc.dflt)) (Int.toNat (z : Int)) Enc.dflt < (all.length : Int))) (bsplit (DB.db ((0 : Int) ≤ Used.bar (List.getD l (Int.toNat (i : Int)) Enc.dflt) ∧ Used.bar (List.getD l (Int.toNat (i : Int)) Enc.dflt) < (bs.length : Int))) (bsplit (agOk Cut (AV.agg 4 fun (i_1 : Nat) => Enc.enc (List.getD all (Int.toNat (List.getD (Used.ps (List.getD l (Int.toNat (i : Int)) Enc.dflt)) (Int.toNat (z : Int)) Enc.dflt))
 Enc.dflt) (0 + i_1))) (bsplit (agOk Bar (AV.agg 6 fun (i_1 : Nat) => Enc.enc (List.getD bs (Int.toNat (Used.bar (List.getD l (Int.toNat (i : Int)) Enc.dflt))) Enc.dflt) (0 + i_1))) (bsplit (!sectB (agD (AV.agg 4 fun (i_1 : Nat) => Enc.enc (List.getD all (Int.toNat (List.getD (Used.ps (List.getD l (Int.toNat (i : Int)) Enc.dflt)) (Int.toNat (z : Int)) Enc.dflt)) Enc.dflt) (0 + i_1))) (agD (AV.agg 6 fun (i_1 : Nat) => Enc.enc (List.getD bs (Int.toNat (Used.bar (List.getD l (Int.toNat (i : Int)) Enc.dflt))) Enc.dflt) (0 + i_1)))) (IntKind.i64 = .i64 ∧ (8 : Int) = oneE all bs k l i) (bsplit (DB.db
 (inK .i64 ((z : Int) + (1 : Int)))) (∃ (z' : Nat), (((z' ≤ List.length (Used.ps (usedAt l i)) ∧ ∀ (a : Nat), a < z' → pcE all (barAt bs (usedAt l i)) (Used.ps (usedAt l i)) a = (0 : Int)) ∧ List.length (Used.ps (usedAt l i)) - z' < List.length (Used.ps (usedAt l i)) - z) ∧ avM (slX 4 all) (slX 4 all) ∧ avM (slX 6 bs) (slX 6 bs) ∧ (IntKind.i64 = .i64 ∧ k = k) ∧ avM (slX 3 l) (slX 3 l) ∧ (IntKind.i64 = .i64 ∧ (i : Int) = (i : Int)) ∧ (nat_lit 0 = 0 ∧ 0 = 0) ∧ IntKind.i64 = .i64 ∧ (z : Int) + (1 : Int) = (z' : Int)) ∧ 50 = 50 ∧ 3 = 3 ∧ ((IntKind.i64 = .i64 ∧ Used.bar (List.getD l (Int.toNat (i :
 Int)) Enc.dflt) = Used.bar (List.getD l (Int.toNat (i : Int)) Enc.dflt)) ∧ avM (AV.xl false 1 (List.length (Used.ps (List.getD l (Int.toNat (i : Int)) Enc.dflt))) fun (i_1 j : Nat) => AV.v (Value.int .i64 (List.getD (Used.ps (List.getD l (Int.toNat (i : Int)) Enc.dflt)) i_1 Enc.dflt))) (AV.xl false 1 (List.length (Used.ps (List.getD l (Int.toNat (i : Int)) Enc.dflt))) fun (i_1 j : Nat) => AV.v (Value.int .i64 (List.getD (Used.ps (List.getD l (Int.toNat (i : Int)) Enc.dflt)) i_1 Enc.dflt)))) ∧ avM (AV.xl false 1 (List.length (Used.at_ (List.getD l (Int.toNat (i : Int)) Enc.dflt))) fun (i_1 j :
 Nat) => AV.v (Value.int .i64 (List.getD (Used.at_ (List.getD l (Int.toNat (i : Int)) Enc.dflt)) i_1 Enc.dflt))) (AV.xl false 1 (List.length (Used.at_ (List.getD l (Int.toNat (i : Int)) Enc.dflt))) fun (i_1 j : Nat) => AV.v (Value.int .i64 (List.getD (Used.at_ (List.getD l (Int.toNat (i : Int)) Enc.dflt)) i_1 Enc.dflt)))) False)) False) False) False) False)) False) False) False) False) False) False) False) False) False) False)) False) False) False) False) False) ((∃ (z : Nat), ((z ≤ List.length (Used.ps (usedAt l i)) ∧ ∀ (a : Nat), a < z → memI (seenU l i) (List.getD (Used.ps (usedAt l i)) a (0
 : Int)) = false) ∧ avM (slX 4 all) (slX 4 all) ∧ avM (slX 6 bs) (slX 6 bs) ∧ (IntKind.i64 = .i64 ∧ k = k) ∧ avM (slX 3 l) (slX 3 l) ∧ (IntKind.i64 = .i64 ∧ (i : Int) = (i : Int)) ∧ (nat_lit 0 = 0 ∧ 0 = 0) ∧ IntKind.i64 = .i64 ∧ (0 : Int) = (z : Int)) ∧ 50 = 50 ∧ 3 = 3 ∧ ((IntKind.i64 = .i64 ∧ Used.bar (List.getD l (Int.toNat (i : Int)) Enc.dflt) = Used.bar (List.getD l (Int.toNat (i : Int)) Enc.dflt)) ∧ avM (AV.xl false 1 (List.length (Used.ps (List.getD l (Int.toNat (i : Int)) Enc.dflt))) fun (i_1 j : Nat) => AV.v (Value.int .i64 (List.getD (Used.ps (List.getD l (Int.toNat (i : Int))
 Enc.dflt)) i_1 Enc.dflt))) (AV.xl false 1 (List.length (Used.ps (List.getD l (Int.toNat (i : Int)) Enc.dflt))) fun (i_1 j : Nat) => AV.v (Value.int .i64 (List.getD (Used.ps (List.getD l (Int.toNat (i : Int)) Enc.dflt)) i_1 Enc.dflt)))) ∧ avM (AV.xl false 1 (List.length (Used.at_ (List.getD l (Int.toNat (i : Int)) Enc.dflt))) fun (i_1 j : Nat) => AV.v (Value.int .i64 (List.getD (Used.at_ (List.getD l (Int.toNat (i : Int)) Enc.dflt)) i_1 Enc.dflt))) (AV.xl false 1 (List.length (Used.at_ (List.getD l (Int.toNat (i : Int)) Enc.dflt))) fun (i_1 j : Nat) => AV.v (Value.int .i64 (List.getD (Used.at_
 (List.getD l (Int.toNat (i : Int)) Enc.dflt)) i_1 Enc.dflt)))) ∧ ∀ (z : Nat), (z ≤ List.length (Used.ps (usedAt l i)) ∧ ∀ (a : Nat), a < z → memI (seenU l i) (List.getD (Used.ps (usedAt l i)) a (0 : Int)) = false) → bsplit (ltB (z : Int) (↑(List.length (Used.ps (List.getD l (Int.toNat (i : Int)) Enc.dflt))) : Int)) ((∃ (z_1 : Nat), ((z_1 ≤ i ∧ memI (seenU l z_1) (List.getD (Used.ps (usedAt l i)) (Int.toNat (AV.int (AV.v (Value.int .i64 (z : Int))))) (0 : Int)) = false) ∧ avM (slX 4 all) (slX 4 all) ∧ avM (slX 6 bs) (slX 6 bs) ∧ (IntKind.i64 = .i64 ∧ k = k) ∧ avM (slX 3 l) (slX 3 l) ∧
 (IntKind.i64 = .i64 ∧ (i : Int) = (i : Int)) ∧ (nat_lit 0 = 0 ∧ 0 = 0) ∧ (IntKind.i64 = .i64 ∧ (z : Int) = (z : Int)) ∧ IntKind.i64 = .i64 ∧ (0 : Int) = (z_1 : Int)) ∧ 50 = 50 ∧ 3 = 3 ∧ ((IntKind.i64 = .i64 ∧ Used.bar (List.getD l (Int.toNat (i : Int)) Enc.dflt) = Used.bar (List.getD l (Int.toNat (i : Int)) Enc.dflt)) ∧ avM (AV.xl false 1 (List.length (Used.ps (List.getD l (Int.toNat (i : Int)) Enc.dflt))) fun (i_1 j : Nat) => AV.v (Value.int .i64 (List.getD (Used.ps (List.getD l (Int.toNat (i : Int)) Enc.dflt)) i_1 Enc.dflt))) (AV.xl false 1 (List.length (Used.ps (List.getD l (Int.toNat (i :
 Int)) Enc.dflt))) fun (i_1 j : Nat) => AV.v (Value.int .i64 (List.getD (Used.ps (List.getD l (Int.toNat (i : Int)) Enc.dflt)) i_1 Enc.dflt)))) ∧ avM (AV.xl false 1 (List.length (Used.at_ (List.getD l (Int.toNat (i : Int)) Enc.dflt))) fun (i_1 j : Nat) => AV.v (Value.int .i64 (List.getD (Used.at_ (List.getD l (Int.toNat (i : Int)) Enc.dflt)) i_1 Enc.dflt))) (AV.xl false 1 (List.length (Used.at_ (List.getD l (Int.toNat (i : Int)) Enc.dflt))) fun (i_1 j : Nat) => AV.v (Value.int .i64 (List.getD (Used.at_ (List.getD l (Int.toNat (i : Int)) Enc.dflt)) i_1 Enc.dflt)))) ∧ ∀ (z_1 : Nat), z_1 ≤ i ∧ memI
 (seenU l z_1) (List.getD (Used.ps (usedAt l i)) (Int.toNat (AV.int (AV.v (Value.int .i64 (z : Int))))) (0 : Int)) = false → bsplit (ltB (z_1 : Int) (i : Int)) (bsplit (DB.db ((0 : Int) ≤ (z_1 : Int) ∧ (z_1 : Int) < (l.length : Int))) (bsplit (DB.db ((0 : Int) ≤ (z : Int) ∧ (z : Int) < (↑(List.length (Used.ps (List.getD l (Int.toNat (i : Int)) Enc.dflt))) : Int))) (bsplit (slOk Int (slN (Used.ps (List.getD l (Int.toNat (z_1 : Int)) Enc.dflt)))) (bsplit (hasB (slD (slN (Used.ps (List.getD l (Int.toNat (z_1 : Int)) Enc.dflt)))) (List.getD (Used.ps (List.getD l (Int.toNat (i : Int)) Enc.dflt))
 (Int.toNat (z : Int)) Enc.dflt)) (IntKind.i64 = .i64 ∧ (7 : Int) = oneE all bs k l i) (bsplit (DB.db (inK .i64 ((z_1 : Int) + (1 : Int)))) (∃ (z' : Nat), (((z' ≤ i ∧ memI (seenU l z') (List.getD (Used.ps (usedAt l i)) (Int.toNat (AV.int (AV.v (Value.int .i64 (z : Int))))) (0 : Int)) = false) ∧ i - z' < i - z_1) ∧ avM (slX 4 all) (slX 4 all) ∧ avM (slX 6 bs) (slX 6 bs) ∧ (IntKind.i64 = .i64 ∧ k = k) ∧ avM (slX 3 l) (slX 3 l) ∧ (IntKind.i64 = .i64 ∧ (i : Int) = (i : Int)) ∧ (nat_lit 0 = 0 ∧ 0 = 0) ∧ (IntKind.i64 = .i64 ∧ (z : Int) = (z : Int)) ∧ IntKind.i64 = .i64 ∧ (z_1 : Int) + (1 : Int) = (z'
 : Int)) ∧ 50 = 50 ∧ 3 = 3 ∧ ((IntKind.i64 = .i64 ∧ Used.bar (List.getD l (Int.toNat (i : Int)) Enc.dflt) = Used.bar (List.getD l (Int.toNat (i : Int)) Enc.dflt)) ∧ avM (AV.xl false 1 (List.length (Used.ps (List.getD l (Int.toNat (i : Int)) Enc.dflt))) fun (i_1 j : Nat) => AV.v (Value.int .i64 (List.getD (Used.ps (List.getD l (Int.toNat (i : Int)) Enc.dflt)) i_1 Enc.dflt))) (AV.xl false 1 (List.length (Used.ps (List.getD l (Int.toNat (i : Int)) Enc.dflt))) fun (i_1 j : Nat) => AV.v (Value.int .i64 (List.getD (Used.ps (List.getD l (Int.toNat (i : Int)) Enc.dflt)) i_1 Enc.dflt)))) ∧ avM (AV.xl
 false 1 (List.length (Used.at_ (List.getD l (Int.toNat (i : Int)) Enc.dflt))) fun (i_1 j : Nat) => AV.v (Value.int .i64 (List.getD (Used.at_ (List.getD l (Int.toNat (i : Int)) Enc.dflt)) i_1 Enc.dflt))) (AV.xl false 1 (List.length (Used.at_ (List.getD l (Int.toNat (i : Int)) Enc.dflt))) fun (i_1 j : Nat) => AV.v (Value.int .i64 (List.getD (Used.at_ (List.getD l (Int.toNat (i : Int)) Enc.dflt)) i_1 Enc.dflt)))) False)) False) False) False) (bsplit (DB.db (inK .i64 ((z : Int) + (1 : Int)))) (∃ (z' : Nat), (((z' ≤ List.length (Used.ps (usedAt l i)) ∧ ∀ (a : Nat), a < z' → memI (seenU l i)
 (List.getD (Used.ps (usedAt l i)) a (0 : Int)) = false) ∧ List.length (Used.ps (usedAt l i)) - z' < List.length (Used.ps (usedAt l i)) - z) ∧ avM (slX 4 all) (slX 4 all) ∧ avM (slX 6 bs) (slX 6 bs) ∧ (IntKind.i64 = .i64 ∧ k = k) ∧ avM (slX 3 l) (slX 3 l) ∧ (IntKind.i64 = .i64 ∧ (i : Int) = (i : Int)) ∧ (nat_lit 0 = 0 ∧ 0 = 0) ∧ IntKind.i64 = .i64 ∧ (z : Int) + (1 : Int) = (z' : Int)) ∧ 50 = 50 ∧ 3 = 3 ∧ ((IntKind.i64 = .i64 ∧ Used.bar (List.getD l (Int.toNat (i : Int)) Enc.dflt) = Used.bar (List.getD l (Int.toNat (i : Int)) Enc.dflt)) ∧ avM (AV.xl false 1 (List.length (Used.ps (List.getD l
 (Int.toNat (i : Int)) Enc.dflt))) fun (i_1 j : Nat) => AV.v (Value.int .i64 (List.getD (Used.ps (List.getD l (Int.toNat (i : Int)) Enc.dflt)) i_1 Enc.dflt))) (AV.xl false 1 (List.length (Used.ps (List.getD l (Int.toNat (i : Int)) Enc.dflt))) fun (i_1 j : Nat) => AV.v (Value.int .i64 (List.getD (Used.ps (List.getD l (Int.toNat (i : Int)) Enc.dflt)) i_1 Enc.dflt)))) ∧ avM (AV.xl false 1 (List.length (Used.at_ (List.getD l (Int.toNat (i : Int)) Enc.dflt))) fun (i_1 j : Nat) => AV.v (Value.int .i64 (List.getD (Used.at_ (List.getD l (Int.toNat (i : Int)) Enc.dflt)) i_1 Enc.dflt))) (AV.xl false 1
 (List.length (Used.at_ (List.getD l (Int.toNat (i : Int)) Enc.dflt))) fun (i_1 j : Nat) => AV.v (Value.int .i64 (List.getD (Used.at_ (List.getD l (Int.toNat (i : Int)) Enc.dflt)) i_1 Enc.dflt)))) False)) (bsplit (DB.db ((0 : Int) ≤ Used.bar (List.getD l (Int.toNat (i : Int)) Enc.dflt) ∧ Used.bar (List.getD l (Int.toNat (i : Int)) Enc.dflt) < (bs.length : Int))) (bsplit (slOk Cut (slX 4 all)) (bsplit (agOk Bar (AV.agg 6 fun (i_1 : Nat) => Enc.enc (List.getD bs (Int.toNat (Used.bar (List.getD l (Int.toNat (i : Int)) Enc.dflt))) Enc.dflt) (0 + i_1))) (bsplit (slOk Int (AV.xl false 1 (List.length
 (Used.ps (List.getD l (Int.toNat (i : Int)) Enc.dflt))) fun (i_1 j : Nat) => AV.v (Value.int .i64 (List.getD (Used.ps (List.getD l (Int.toNat (i : Int)) Enc.dflt)) i_1 Enc.dflt)))) (bsplit (inL (slD (slX 4 all)) (slD (AV.xl false 1 (List.length (Used.ps (List.getD l (Int.toNat (i : Int)) Enc.dflt))) fun (i_1 j : Nat) => AV.v (Value.int .i64 (List.getD (Used.ps (List.getD l (Int.toNat (i : Int)) Enc.dflt)) i_1 Enc.dflt)))) && Nat.blt (List.length (intsOf (AV.xl false 1 (List.length (Used.ps (List.getD l (Int.toNat (i : Int)) Enc.dflt))) fun (i_1 j : Nat) => AV.v (Value.int .i64 (List.getD
 (Used.ps (List.getD l (Int.toNat (i : Int)) Enc.dflt)) i_1 Enc.dflt))))) 1000000000) (bsplit (!fitsOk (agD (AV.agg 6 fun (i_1 : Nat) => Enc.enc (List.getD bs (Int.toNat (Used.bar (List.getD l (Int.toNat (i : Int)) Enc.dflt))) Enc.dflt) (0 + i_1))) (lensL (slD (slX 4 all)) (slD (AV.xl false 1 (List.length (Used.ps (List.getD l (Int.toNat (i : Int)) Enc.dflt))) fun (i_1 j : Nat) => AV.v (Value.int .i64 (List.getD (Used.ps (List.getD l (Int.toNat (i : Int)) Enc.dflt)) i_1 Enc.dflt))))) k) (IntKind.i64 = .i64 ∧ (22 : Int) = oneE all bs k l i) (bsplit ((↑(List.length (fitsAt (agD (AV.agg 6 fun (i_1
 : Nat) => Enc.enc (List.getD bs (Int.toNat (Used.bar (List.getD l (Int.toNat (i : Int)) Enc.dflt))) Enc.dflt) (0 + i_1))) (lensL (slD (slX 4 all)) (slD (AV.xl false 1 (List.length (Used.ps (List.getD l (Int.toNat (i : Int)) Enc.dflt))) fun (i_1 j : Nat) => AV.v (Value.int .i64 (List.getD (Used.ps (List.getD l (Int.toNat (i : Int)) Enc.dflt)) i_1 Enc.dflt))))) k)) : Int) != (↑(List.length (Used.at_ (List.getD l (Int.toNat (i : Int)) Enc.dflt))) : Int)) (IntKind.i64 = .i64 ∧ (9 : Int) = oneE all bs k l i) ((∃ (z : Nat), ((z ≤ List.length (laidAt all bs k (usedAt l i)) ∧ ∀ (a : Nat), a < z →
 List.getD (laidAt all bs k (usedAt l i)) a (0 : Int) = List.getD (Used.at_ (usedAt l i)) a (0 : Int)) ∧ avM (slX 6 bs) (slX 6 bs) ∧ avM (slX 3 l) (slX 3 l) ∧ (IntKind.i64 = .i64 ∧ (i : Int) = (i : Int)) ∧ (nat_lit 0 = 0 ∧ 0 = 0) ∧ avM (AV.xl false 1 (List.length (fitsAt (agD (AV.agg 6 fun (i_1 : Nat) => Enc.enc (List.getD bs (Int.toNat (Used.bar (List.getD l (Int.toNat (i : Int)) Enc.dflt))) Enc.dflt) (0 + i_1))) (lensL (slD (slX 4 all)) (slD (AV.xl false 1 (List.length (Used.ps (List.getD l (Int.toNat (i : Int)) Enc.dflt))) fun (i_1 j : Nat) => AV.v (Value.int .i64 (List.getD (Used.ps
 (List.getD l (Int.toNat (i : Int)) Enc.dflt)) i_1 Enc.dflt))))) k)) fun (i_1 j : Nat) => AV.v (Value.int .i64 (List.getD (fitsAt (agD (AV.agg 6 fun (i_2 : Nat) => Enc.enc (List.getD bs (Int.toNat (Used.bar (List.getD l (Int.toNat (i : Int)) Enc.dflt))) Enc.dflt) (0 + i_2))) (lensL (slD (slX 4 all)) (slD (AV.xl false 1 (List.length (Used.ps (List.getD l (Int.toNat (i : Int)) Enc.dflt))) fun (i_2 j : Nat) => AV.v (Value.int .i64 (List.getD (Used.ps (List.getD l (Int.toNat (i : Int)) Enc.dflt)) i_2 Enc.dflt))))) k) i_1 Enc.dflt))) (AV.xl false 1 (List.length (fitsAt (agD (AV.agg 6 fun (i_1 : Nat)
 => Enc.enc (List.getD bs (Int.toNat (Used.bar (List.getD l (Int.toNat (i : Int)) Enc.dflt))) Enc.dflt) (0 + i_1))) (lensL (slD (slX 4 all)) (slD (AV.xl false 1 (List.length (Used.ps (List.getD l (Int.toNat (i : Int)) Enc.dflt))) fun (i_1 j : Nat) => AV.v (Value.int .i64 (List.getD (Used.ps (List.getD l (Int.toNat (i : Int)) Enc.dflt)) i_1 Enc.dflt))))) k)) fun (i_1 j : Nat) => AV.v (Value.int .i64 (List.getD (fitsAt (agD (AV.agg 6 fun (i_2 : Nat) => Enc.enc (List.getD bs (Int.toNat (Used.bar (List.getD l (Int.toNat (i : Int)) Enc.dflt))) Enc.dflt) (0 + i_2))) (lensL (slD (slX 4 all)) (slD
 (AV.xl false 1 (List.length (Used.ps (List.getD l (Int.toNat (i : Int)) Enc.dflt))) fun (i_2 j : Nat) => AV.v (Value.int .i64 (List.getD (Used.ps (List.getD l (Int.toNat (i : Int)) Enc.dflt)) i_2 Enc.dflt))))) k) i_1 Enc.dflt))) ∧ IntKind.i64 = .i64 ∧ (0 : Int) = (z : Int)) ∧ 50 = 50 ∧ 3 = 3 ∧ ((IntKind.i64 = .i64 ∧ Used.bar (List.getD l (Int.toNat (i : Int)) Enc.dflt) = Used.bar (List.getD l (Int.toNat (i : Int)) Enc.dflt)) ∧ avM (AV.xl false 1 (List.length (Used.ps (List.getD l (Int.toNat (i : Int)) Enc.dflt))) fun (i_1 j : Nat) => AV.v (Value.int .i64 (List.getD (Used.ps (List.getD l
 (Int.toNat (i : Int)) Enc.dflt)) i_1 Enc.dflt))) (AV.xl false 1 (List.length (Used.ps (List.getD l (Int.toNat (i : Int)) Enc.dflt))) fun (i_1 j : Nat) => AV.v (Value.int .i64 (List.getD (Used.ps (List.getD l (Int.toNat (i : Int)) Enc.dflt)) i_1 Enc.dflt)))) ∧ avM (AV.xl false 1 (List.length (Used.at_ (List.getD l (Int.toNat (i : Int)) Enc.dflt))) fun (i_1 j : Nat) => AV.v (Value.int .i64 (List.getD (Used.at_ (List.getD l (Int.toNat (i : Int)) Enc.dflt)) i_1 Enc.dflt))) (AV.xl false 1 (List.length (Used.at_ (List.getD l (Int.toNat (i : Int)) Enc.dflt))) fun (i_1 j : Nat) => AV.v (Value.int .i64
 (List.getD (Used.at_ (List.getD l (Int.toNat (i : Int)) Enc.dflt)) i_1 Enc.dflt)))) ∧ ∀ (z : Nat), (z ≤ List.length (laidAt all bs k (usedAt l i)) ∧ ∀ (a : Nat), a < z → List.getD (laidAt all bs k (usedAt l i)) a (0 : Int) = List.getD (Used.at_ (usedAt l i)) a (0 : Int)) → bsplit (ltB (z : Int) (↑(List.length (fitsAt (agD (AV.agg 6 fun (i_1 : Nat) => Enc.enc (List.getD bs (Int.toNat (Used.bar (List.getD l (Int.toNat (i : Int)) Enc.dflt))) Enc.dflt) (0 + i_1))) (lensL (slD (slX 4 all)) (slD (AV.xl false 1 (List.length (Used.ps (List.getD l (Int.toNat (i : Int)) Enc.dflt))) fun (i_1 j : Nat) =>
 AV.v (Value.int .i64 (List.getD (Used.ps (List.getD l (Int.toNat (i : Int)) Enc.dflt)) i_1 Enc.dflt))))) k)) : Int)) (bsplit (DB.db ((0 : Int) ≤ (z : Int) ∧ (z : Int) < (↑(List.length (fitsAt (agD (AV.agg 6 fun (i_1 : Nat) => Enc.enc (List.getD bs (Int.toNat (Used.bar (List.getD l (Int.toNat (i : Int)) Enc.dflt))) Enc.dflt) (0 + i_1))) (lensL (slD (slX 4 all)) (slD (AV.xl false 1 (List.length (Used.ps (List.getD l (Int.toNat (i : Int)) Enc.dflt))) fun (i_1 j : Nat) => AV.v (Value.int .i64 (List.getD (Used.ps (List.getD l (Int.toNat (i : Int)) Enc.dflt)) i_1 Enc.dflt))))) k)) : Int))) (bsplit
 (DB.db ((0 : Int) ≤ (z : Int) ∧ (z : Int) < (↑(List.length (Used.at_ (List.getD l (Int.toNat (i : Int)) Enc.dflt))) : Int))) (bsplit (List.getD (fitsAt (agD (AV.agg 6 fun (i_1 : Nat) => Enc.enc (List.getD bs (Int.toNat (Used.bar (List.getD l (Int.toNat (i : Int)) Enc.dflt))) Enc.dflt) (0 + i_1))) (lensL (slD (slX 4 all)) (slD (AV.xl false 1 (List.length (Used.ps (List.getD l (Int.toNat (i : Int)) Enc.dflt))) fun (i_1 j : Nat) => AV.v (Value.int .i64 (List.getD (Used.ps (List.getD l (Int.toNat (i : Int)) Enc.dflt)) i_1 Enc.dflt))))) k) (Int.toNat (z : Int)) Enc.dflt != List.getD (Used.at_
 (List.getD l (Int.toNat (i : Int)) Enc.dflt)) (Int.toNat (z : Int)) Enc.dflt) (IntKind.i64 = .i64 ∧ (9 : Int) = oneE all bs k l i) (bsplit (DB.db (inK .i64 ((z : Int) + (1 : Int)))) (∃ (z' : Nat), (((z' ≤ List.length (laidAt all bs k (usedAt l i)) ∧ ∀ (a : Nat), a < z' → List.getD (laidAt all bs k (usedAt l i)) a (0 : Int) = List.getD (Used.at_ (usedAt l i)) a (0 : Int)) ∧ List.length (laidAt all bs k (usedAt l i)) - z' < List.length (laidAt all bs k (usedAt l i)) - z) ∧ avM (slX 6 bs) (slX 6 bs) ∧ avM (slX 3 l) (slX 3 l) ∧ (IntKind.i64 = .i64 ∧ (i : Int) = (i : Int)) ∧ (nat_lit 0 = 0 ∧ 0 = 0)
 ∧ avM (AV.xl false 1 (List.length (fitsAt (agD (AV.agg 6 fun (i_1 : Nat) => Enc.enc (List.getD bs (Int.toNat (Used.bar (List.getD l (Int.toNat (i : Int)) Enc.dflt))) Enc.dflt) (0 + i_1))) (lensL (slD (slX 4 all)) (slD (AV.xl false 1 (List.length (Used.ps (List.getD l (Int.toNat (i : Int)) Enc.dflt))) fun (i_1 j : Nat) => AV.v (Value.int .i64 (List.getD (Used.ps (List.getD l (Int.toNat (i : Int)) Enc.dflt)) i_1 Enc.dflt))))) k)) fun (i_1 j : Nat) => AV.v (Value.int .i64 (List.getD (fitsAt (agD (AV.agg 6 fun (i_2 : Nat) => Enc.enc (List.getD bs (Int.toNat (Used.bar (List.getD l (Int.toNat (i :
 Int)) Enc.dflt))) Enc.dflt) (0 + i_2))) (lensL (slD (slX 4 all)) (slD (AV.xl false 1 (List.length (Used.ps (List.getD l (Int.toNat (i : Int)) Enc.dflt))) fun (i_2 j : Nat) => AV.v (Value.int .i64 (List.getD (Used.ps (List.getD l (Int.toNat (i : Int)) Enc.dflt)) i_2 Enc.dflt))))) k) i_1 Enc.dflt))) (AV.xl false 1 (List.length (fitsAt (agD (AV.agg 6 fun (i_1 : Nat) => Enc.enc (List.getD bs (Int.toNat (Used.bar (List.getD l (Int.toNat (i : Int)) Enc.dflt))) Enc.dflt) (0 + i_1))) (lensL (slD (slX 4 all)) (slD (AV.xl false 1 (List.length (Used.ps (List.getD l (Int.toNat (i : Int)) Enc.dflt))) fun
 (i_1 j : Nat) => AV.v (Value.int .i64 (List.getD (Used.ps (List.getD l (Int.toNat (i : Int)) Enc.dflt)) i_1 Enc.dflt))))) k)) fun (i_1 j : Nat) => AV.v (Value.int .i64 (List.getD (fitsAt (agD (AV.agg 6 fun (i_2 : Nat) => Enc.enc (List.getD bs (Int.toNat (Used.bar (List.getD l (Int.toNat (i : Int)) Enc.dflt))) Enc.dflt) (0 + i_2))) (lensL (slD (slX 4 all)) (slD (AV.xl false 1 (List.length (Used.ps (List.getD l (Int.toNat (i : Int)) Enc.dflt))) fun (i_2 j : Nat) => AV.v (Value.int .i64 (List.getD (Used.ps (List.getD l (Int.toNat (i : Int)) Enc.dflt)) i_2 Enc.dflt))))) k) i_1 Enc.dflt))) ∧
 IntKind.i64 = .i64 ∧ (z : Int) + (1 : Int) = (z' : Int)) ∧ 50 = 50 ∧ 3 = 3 ∧ ((IntKind.i64 = .i64 ∧ Used.bar (List.getD l (Int.toNat (i : Int)) Enc.dflt) = Used.bar (List.getD l (Int.toNat (i : Int)) Enc.dflt)) ∧ avM (AV.xl false 1 (List.length (Used.ps (List.getD l (Int.toNat (i : Int)) Enc.dflt))) fun (i_1 j : Nat) => AV.v (Value.int .i64 (List.getD (Used.ps (List.getD l (Int.toNat (i : Int)) Enc.dflt)) i_1 Enc.dflt))) (AV.xl false 1 (List.length (Used.ps (List.getD l (Int.toNat (i : Int)) Enc.dflt))) fun (i_1 j : Nat) => AV.v (Value.int .i64 (List.getD (Used.ps (List.getD l (Int.toNat (i :
 Int)) Enc.dflt)) i_1 Enc.dflt)))) ∧ avM (AV.xl false 1 (List.length (Used.at_ (List.getD l (Int.toNat (i : Int)) Enc.dflt))) fun (i_1 j : Nat) => AV.v (Value.int .i64 (List.getD (Used.at_ (List.getD l (Int.toNat (i : Int)) Enc.dflt)) i_1 Enc.dflt))) (AV.xl false 1 (List.length (Used.at_ (List.getD l (Int.toNat (i : Int)) Enc.dflt))) fun (i_1 j : Nat) => AV.v (Value.int .i64 (List.getD (Used.at_ (List.getD l (Int.toNat (i : Int)) Enc.dflt)) i_1 Enc.dflt)))) False)) False) False) (bsplit (DB.db (inK .i64 ((i : Int) + (1 : Int)))) (bsplit (slOk Used (slX 3 l)) (bsplit (leB (0 : Int) ((i : Int) +
 (1 : Int)) && leB ((i : Int) + (1 : Int)) (↑(List.length (usedOf (slX 3 l))) : Int) && Nat.blt (List.length (usedOf (slX 3 l))) 1000000000) (bsplit (DB.db ((0 : Int) ≤ Used.bar (List.getD l (Int.toNat (i : Int)) Enc.dflt) ∧ Used.bar (List.getD l (Int.toNat (i : Int)) Enc.dflt) < (bs.length : Int))) (bsplit (ltB (Bar.n (List.getD bs (Int.toNat (Used.bar (List.getD l (Int.toNat (i : Int)) Enc.dflt))) Enc.dflt)) (↑(usedN (List.take (Int.toNat ((i : Int) + (1 : Int))) (usedOf (slX 3 l))) (Used.bar (List.getD l (Int.toNat (i : Int)) Enc.dflt))) : Int)) (IntKind.i64 = .i64 ∧ (22 : Int) = oneE all bs
 k l i) (IntKind.i64 = .i64 ∧ (0 : Int) = oneE all bs k l i)) False) False) False) False)))) False) False) False) False) False))))) False) False) False) False) False) False := by
  intro hb
  have e0 : (Enc.dflt : Int) = 0 := rfl
  have e1 : (Enc.dflt : Cut) = ⟨0, 0, 0, []⟩ := rfl
  have e2 : (Enc.dflt : Bar) = ⟨0, 0, 0, 0, 0, []⟩ := rfl
  have e3 : (Enc.dflt : Used) = ⟨0, [], []⟩ := rfl
  simp only [slX, slN, avM_refl, true_and, and_true, bsel_true, bsel_false, vc_own, bif_or, bif_and, vc_gdb, vc_db, vc_lt, vc_le, vc_ne, vc_eq, vc_tt, Int.toNat_natCast, Nat.zero_add, Nat.zero_le, Nat.sub_zero, agD_bar, agOk_bar, agD_bar', agOk_bar', agD_cut, agOk_cut, agD_cut', agOk_cut', agD_used, agOk_used, agD_used', agOk_used', int_i, Bool.or_true, cond_true, cond_false, okC, okC', deC, deC', okB, deB, okB', deB', okIn, okIn', deI, deI', okU, okU', deU, deU', okBl, deBl, okUl, deUl, deIo, cutsOf_sl, deUo, e0, e1, e2, e3, ltB_nat, pred_nat]
  have hu : l.getD i ⟨0, [], []⟩ = usedAt l i := rfl
  have hbr : bs.getD (usedAt l i).bar.toNat ⟨0, 0, 0, 0, 0, []⟩ = barAt bs (usedAt l i) := rfl
  have hO : fitsOk (barAt bs (usedAt l i)) (lensL all (usedAt l i).ps) k = laidOk all bs k (usedAt l i) := rfl
  have hA : fitsAt (barAt bs (usedAt l i)) (lensL all (usedAt l i).ps) k = laidAt all bs k (usedAt l i) := rfl
  simp only [hu, hbr, hO, hA]
  have hpl : (usedAt l i).ps.length ≤ 9223372036854775807 := ((hb.2.2.2.1).2 i 1 hi (by decide)).1
  refine ⟨by omega, bsplit_iff.2 ⟨fun h1 => ?_, fun h1 => ⟨fun h2 => ?_, fun h2 => ?_⟩⟩⟩
  · have e := kind_bar (all := all) h1
    rw [one_kind (by rw [e]; decide), e]
  · have e := kind_empty (all := all) h1 (by omega)
    rw [one_kind (by rw [e]; decide), e]
  have hk := kind_first (all := all) h1 (show (usedAt l i).ps.length ≠ 0 by omega)
  have hbar : 0 ≤ (usedAt l i).bar ∧ (usedAt l i).bar < bs.length := by
    rw [Bool.or_eq_false_iff, ltB_eq, leB_eq, decide_eq_false_iff_not, decide_eq_false_iff_not] at h1
    omega
  refine ⟨⟨0, ⟨by omega, fun i hi => by omega⟩, rfl⟩, fun z ⟨z1, z2⟩ => ⟨fun hz => ⟨by omega, bsplit_iff.2 ⟨fun c1 => ?_, fun c1 => ⟨fun h => by have := (blt_iff _ _).1 h; simp only [inK]; omega, fun h => by have := (blt_iff _ _).1 h; omega, bsplit_iff.2 ⟨fun c2 => ?_, fun c2 => ⟨?_, hbar, bsplit_iff.2 ⟨fun c3 => ?_, fun c3 => ⟨by simp only [inK]; omega, z + 1, ⟨⟨by omega, fun i hi => ?_⟩, by omega⟩, by omega⟩⟩⟩⟩⟩⟩⟩, fun hz => ?_⟩⟩
  · have e : pcE all (barAt bs (usedAt l i)) (usedAt l i).ps z = 2 := by unfold pcE; rw [c1]; rfl
    rw [firstN_at (k := z) (by omega) z2 (by rw [e]; decide), e] at hk
    rw [one_kind (by rw [hk]; decide), hk]
  · have e : pcE all (barAt bs (usedAt l i)) (usedAt l i).ps z = 10 := by unfold pcE; rw [c1, c2]; rfl
    rw [firstN_at (k := z) (by omega) z2 (by rw [e]; decide), e] at hk
    rw [one_kind (by rw [hk]; decide), hk]
  · rw [Bool.or_eq_false_iff, ltB_eq, leB_eq, decide_eq_false_iff_not, decide_eq_false_iff_not] at c1
    omega
  · have e : pcE all (barAt bs (usedAt l i)) (usedAt l i).ps z = 8 := by unfold pcE; rw [c1, c2, c3]; rfl
    rw [firstN_at (k := z) (by omega) z2 (by rw [e]; decide), e] at hk
    rw [one_kind (by rw [hk]; decide), hk]
  · by_cases e : i = z
    · rw [e]; unfold pcE; rw [c1, c2, c3]; rfl
    · exact z2 i (by omega)
  rw [firstN_none fun i hi => z2 i (by omega)] at hk
  obtain ⟨_, _, k3, k4, k5⟩ := kindE_ok hk
  have hlen := asc_le (fun i hi => inL_at k4 hi) k5
  refine ⟨⟨0, ⟨by omega, fun i hi => by omega⟩, rfl⟩, fun y ⟨y1, y2⟩ => ⟨fun hy => ⟨⟨0, ⟨by omega, rfl⟩, rfl⟩, fun x ⟨x1, x2⟩ => ⟨fun hx => ⟨by omega, by omega, bsplit_iff.2 ⟨fun c => ?_, fun c => ⟨by simp only [inK]; omega, x + 1, ⟨⟨by omega, ?_⟩, by omega⟩, by omega⟩⟩⟩, fun hx => ⟨by simp only [inK]; omega, y + 1, ⟨⟨by omega, fun a ha' => ?_⟩, by omega⟩, by omega⟩⟩⟩, fun hy => ?_⟩⟩
  · refine (one_seen hk (any_at (i := y) (by omega) ?_)).symm
    exact seen_mono (show x + 1 ≤ i by omega) (by rw [seenU, memI_app, hasB_memI] at *; rw [show memI (usedAt l x).ps ((usedAt l i).ps.getD y 0) = true from c, Bool.or_true])
  · rw [seenU, memI_app, x2, show memI (usedAt l x).ps ((usedAt l i).ps.getD y 0) = false from c]; rfl
  · by_cases e : a = y
    · rw [e, show i = x by omega]; rw [show i = x by omega] at x2; exact x2
    · exact y2 a (by omega)
  have hany : (usedAt l i).ps.any (memI (seenU l i)) = false := any_none fun a ha' => y2 a (by omega)
  refine ⟨hbar, vc_b.2 ⟨by rw [k4, (blt_iff _ _).2 (by omega)]; rfl, bsplit_iff.2 ⟨fun c => ?_, fun c => ⟨fun hne => ?_, fun heq => ?_⟩⟩⟩⟩
  · rw [Bool.not_eq_true'] at c
    exact (one_lay hk hany c).symm
  · rw [Bool.not_eq_false'] at c
    exact (one_at hk hany c fun h => hne (by rw [h])).symm
  rw [Bool.not_eq_false'] at c
  refine ⟨⟨0, ⟨by omega, fun i hi => by omega⟩, rfl⟩, fun w ⟨w1, w2⟩ => ⟨fun hw => ⟨by omega, by omega, fun hne => ?_, fun he => ⟨by simp only [inK]; have := laid_len c; omega, w + 1, ⟨⟨by omega, fun a ha' => ?_⟩, by omega⟩, by omega⟩⟩, fun hw => ⟨by simp only [inK]; omega, vc_b.2 ⟨?_, hbar, ?_⟩⟩⟩⟩
  · exact (one_at hk hany c fun h => hne (by rw [h])).symm
  · by_cases e : a = w
    · rw [e]; exact he
    · exact w2 a (by omega)
  · rw [(leB_iff _ _).2 (by omega), (leB_iff _ _).2 (by omega), (blt_iff _ _).2 (by omega)]; rfl
  have hat : laidAt all bs k (usedAt l i) = (usedAt l i).at_ := by
    apply List.ext_getElem (by omega)
    intro a h3 h4
    have := w2 a (by omega)
    simpa [List.getD_eq_getElem?_getD, h3, h4] using this
  rw [one_n hk hany c hat, show ((i : Int) + 1).toNat = i + 1 by omega]
  exact ⟨fun h => by rw [(ltB_iff _ _).2 h]; rfl, fun h => by rw [show ltB (barAt bs (usedAt l i)).n (usedN (l.take (i + 1)) (usedAt l i).bar) = false by rw [ltB_eq, decide_eq_false_iff_not]; omega]; rfl⟩
def rbar_t : List AV → Option (List Cond × AV)
  | [x, y, .v (.int .i64 k), z, .v (.int .i64 i)] => some ([.b (slOk Cut x), .b (slOk Bar y), .b (slOk Used z), .b (Nat.ble (cutsOf x).length 64 && leB 0 i && ltB i (usedOf z).length && Nat.ble (usedOf z).length 64)], .i (oneE (cutsOf x) (slD y) k (usedOf z) i.toNat))
  | _ => none
theorem rbar_T : PureT Tryz.prog [] 65 rbar_t := by
  intro xs ps r h hp
  unfold rbar_t at h
  split at h
  · rename_i x y k z i
    cases h
    have h4 : (Nat.ble (cutsOf x).length 64 && leB 0 i && ltB i (usedOf z).length && Nat.ble (usedOf z).length 64) = true := hp _ (List.mem_cons_of_mem _ (List.mem_cons_of_mem _ (List.mem_cons_of_mem _ List.mem_cons_self)))
    rw [Bool.and_eq_true, Bool.and_eq_true, Bool.and_eq_true, leB_iff, ltB_iff] at h4
    obtain ⟨⟨⟨q1, q2⟩, q3⟩, q4⟩ := h4
    have e : (i.toNat : Int) = i := Int.toNat_of_nonneg q2
    refine weaken (ys := [_, _, _, _, .i (i.toNat : Int)]) ⟨slE_sound (hp _ List.mem_cons_self), slE_sound (hp _ (List.mem_cons_of_mem _ List.mem_cons_self)), avM_refl _, slE_sound (hp _ (List.mem_cons_of_mem _ (List.mem_cons_of_mem _ List.mem_cons_self))), by rw [e]; exact avM_refl _, trivial⟩
      (pure_of_vc mixed Trb2_sound (Eq.mp (by kernel_rfl) (rbar_vc (cutsOf x) (slD y) k (usedOf z) i.toNat (Nat.le_of_ble_eq_true q1) (by omega) (Nat.le_of_ble_eq_true q4)) : vcFn Tryz.prog Trb2 65 (rbar_an (cutsOf x) (slD y) k (usedOf z) i.toNat) [slE (cutsOf x), slE (slD y), .i k, slE (usedOf z), .i (i.toNat : Int)] (.i (oneE (cutsOf x) (slD y) k (usedOf z) i.toNat))))
  · cases h

/-! ### kingpostref45.Check -/

/-- How many pieces the first used bars have. -/
def sumP (l : List Used) : Nat → Nat
  | 0 => 0
  | z + 1 => sumP l z + (usedAt l z).ps.length
def checkE (ps : List Cut) (bs : List Bar) (k : Int) (l : List Used) : Int :=
  bif startE ps bs k != 0 then startE ps bs k
  else bif Nat.blt 64 l.length then 4
  else bif firstN (oneE (startL ps bs k) bs k l) l.length 0 != 0 then firstN (oneE (startL ps bs k) bs k l) l.length 0
  else bif Nat.blt (sumP l l.length) (startL ps bs k).length then 6 else 0
theorem start_le {ps : List Cut} {bs : List Bar} {k : Int} : (startL ps bs k).length ≤ 64 := by
  unfold startL
  cases h : startE ps bs k == 0 with
  | false => exact Nat.zero_le _
  | true =>
    rw [beq_iff_eq] at h
    unfold startE at h
    cases h1 : cutsE ps != 0 || barsE bs != 0 with
    | true => rw [h1] at h; cases h
    | false =>
    rw [h1] at h
    cases h2 : ltB k 0 || ltB 100 k with
    | true => rw [h2] at h; cases h
    | false =>
    rw [h2] at h
    cases h3 : Nat.blt 64 (splitL ps).length with
    | true => rw [h3] at h; cases h
    | false =>
      have : ¬ 64 < (splitL ps).length := fun hh => by rw [(blt_iff _ _).2 hh] at h3; cases h3
      show (splitL ps).length ≤ 64
      omega
theorem one_zero {all : List Cut} {bs : List Bar} {k : Int} {l : List Used} {i : Nat} (h : oneE all bs k l i = 0) : kindE all bs (usedAt l i) = 0 := by
  by_cases e : kindE all bs (usedAt l i) = 0
  · exact e
  · rw [one_kind e] at h; exact h
theorem one_ps {all : List Cut} {bs : List Bar} {k : Int} {l : List Used} {i : Nat} (h : oneE all bs k l i = 0) : (usedAt l i).ps.length ≤ all.length := by
  obtain ⟨_, _, _, k4, k5⟩ := kindE_ok (one_zero h)
  exact asc_le (fun i hi => inL_at k4 hi) k5
theorem sumP_le {all : List Cut} {bs : List Bar} {k : Int} {l : List Used} (ha : all.length ≤ 64) : ∀ z, (∀ i, i < z → oneE all bs k l i = 0) → sumP l z ≤ 64 * z
  | 0, _ => Nat.le_refl _
  | z + 1, h => by
    have h1 := sumP_le ha z fun i hi => h i (by omega)
    have h2 := one_ps (h z (by omega))
    show sumP l z + (usedAt l z).ps.length ≤ _
    omega
def rcheck_an (ps : List Cut) (bs : List Bar) (k : Int) (l : List Used) : Ann :=
  .two .auto (.two .auto (.two .auto (.two .auto (.two .auto (.two (.two .auto (.one (.loop Nat (fun σ z => [(1, σ.tm 1), (2, σ.tm 2), (3, σ.tm 3), (9, σ.tm 9), (11, .i (sumP l z)), (12, .i z)]) (fun σ z => []) 0 (fun σ z => z ≤ l.length ∧ ∀ i, i < z → oneE (startL ps bs k) bs k l i = 0) (fun σ z => l.length - z) .auto))) .auto)))))
def Trc2 : Tb := (T0.plus 64 start_t).plus 65 rbar_t
theorem Trc2_sound : TbSound Tryz.prog Trc2 := TbSound.plus (TbSound.plus tb0_sound start_T) rbar_T
theorem rcheck_vc (ps : List Cut) (bs : List Bar) (k : Int) (l : List Used) : bndL [slX 4 ps, slX 6 bs, AV.v (Value.int .i64 k), slX 3 l] → bsplit (slOk Cut (slX 4 ps)) (bsplit (slOk Bar (slX 6 bs)) (bsplit (startE (slD (slX 4 ps)) (slD (slX 6 bs)) k != (0 : Int)) (IntKind.i64 = .i64 ∧ startE (slD (slX 4 ps)) (slD (slX 6 bs)) k = checkE ps bs k l) (bsplit (ltB (64 : Int) (l.length : Int)) (IntKind.i64 = .i64 ∧ (4 : Int) = checkE ps bs k l) ((∃ (z : Nat), ((z ≤ l.length ∧ ∀ (i : Nat), i < z → oneE (startL ps bs k) bs k l i = (0 : Int)) ∧ avM (slX 6 bs) (slX 6 bs) ∧ (IntKind.i64 = .i64 ∧ k = k) ∧
 avM (slX 3 l) (slX 3 l) ∧ avM (slX 4 (startL (slD (AV.xl false 4 (ps.length) fun i j => Enc.enc (List.getD ps i Enc.dflt) j)) (slD (AV.xl false 6 (bs.length) fun i j => Enc.enc (List.getD bs i Enc.dflt) j)) k)) (slX 4 (startL (slD (AV.xl false 4 (ps.length) fun i j => Enc.enc (List.getD ps i Enc.dflt) j)) (slD (AV.xl false 6 (bs.length) fun i j => Enc.enc (List.getD bs i Enc.dflt) j)) k)) ∧ (IntKind.i64 = .i64 ∧ (0 : Int) = (↑(sumP l z) : Int)) ∧ IntKind.i64 = .i64 ∧ (0 : Int) = (z : Int)) ∧ True) ∧ ∀ (z : Nat), (z ≤ l.length ∧ ∀ (i : Nat), i < z → oneE (startL ps bs k) bs k l i = (0 : Int)) →
 bsplit (ltB (z : Int) (l.length : Int)) (bsplit (slOk Cut (slX 4 (startL (slD (AV.xl false 4 (ps.length) fun i j => Enc.enc (List.getD ps i Enc.dflt) j)) (slD (AV.xl false 6 (bs.length) fun i j => Enc.enc (List.getD bs i Enc.dflt) j)) k))) (bsplit (slOk Bar (slX 6 bs)) (bsplit (slOk Used (slX 3 l)) (bsplit (Nat.ble (List.length (cutsOf (slX 4 (startL (slD (AV.xl false 4 (ps.length) fun i j => Enc.enc (List.getD ps i Enc.dflt) j)) (slD (AV.xl false 6 (bs.length) fun i j => Enc.enc (List.getD bs i Enc.dflt) j)) k)))) 64 && leB (0 : Int) (z : Int) && ltB (z : Int) (↑(List.length (usedOf (slX 3
 l))) : Int) && Nat.ble (List.length (usedOf (slX 3 l))) 64) (bsplit (oneE (cutsOf (slX 4 (startL (slD (AV.xl false 4 (ps.length) fun i j => Enc.enc (List.getD ps i Enc.dflt) j)) (slD (AV.xl false 6 (bs.length) fun i j => Enc.enc (List.getD bs i Enc.dflt) j)) k))) (slD (slX 6 bs)) k (usedOf (slX 3 l)) (Int.toNat (z : Int)) != (0 : Int)) (IntKind.i64 = .i64 ∧ oneE (cutsOf (slX 4 (startL (slD (AV.xl false 4 (ps.length) fun i j => Enc.enc (List.getD ps i Enc.dflt) j)) (slD (AV.xl false 6 (bs.length) fun i j => Enc.enc (List.getD bs i Enc.dflt) j)) k))) (slD (slX 6 bs)) k (usedOf (slX 3 l))
 (Int.toNat (z : Int)) = checkE ps bs k l) (bsplit (DB.db ((0 : Int) ≤ (z : Int) ∧ (z : Int) < (l.length : Int))) (bsplit (DB.db (inK .i64 ((↑(sumP l z) : Int) + (↑(List.length (Used.ps (List.getD l (Int.toNat (z : Int)) Enc.dflt))) : Int)))) (bsplit (DB.db (inK .i64 ((z : Int) + (1 : Int)))) (∃ (z' : Nat), (((z' ≤ l.length ∧ ∀ (i : Nat), i < z' → oneE (startL ps bs k) bs k l i = (0 : Int)) ∧ l.length - z' < l.length - z) ∧ avM (slX 6 bs) (slX 6 bs) ∧ (IntKind.i64 = .i64 ∧ k = k) ∧ avM (slX 3 l) (slX 3 l) ∧ avM (slX 4 (startL (slD (AV.xl false 4 (ps.length) fun i j => Enc.enc (List.getD ps i
 Enc.dflt) j)) (slD (AV.xl false 6 (bs.length) fun i j => Enc.enc (List.getD bs i Enc.dflt) j)) k)) (slX 4 (startL (slD (AV.xl false 4 (ps.length) fun i j => Enc.enc (List.getD ps i Enc.dflt) j)) (slD (AV.xl false 6 (bs.length) fun i j => Enc.enc (List.getD bs i Enc.dflt) j)) k)) ∧ (IntKind.i64 = .i64 ∧ (↑(sumP l z) : Int) + (↑(List.length (Used.ps (List.getD l (Int.toNat (z : Int)) Enc.dflt))) : Int) = (↑(sumP l z') : Int)) ∧ IntKind.i64 = .i64 ∧ (z : Int) + (1 : Int) = (z' : Int)) ∧ True) False) False) False)) False) False) False) False) (bsplit (ltB (↑(sumP l z) : Int) (↑(List.length (startL
 (slD (slX 4 ps)) (slD (slX 6 bs)) k)) : Int)) (IntKind.i64 = .i64 ∧ (6 : Int) = checkE ps bs k l) (IntKind.i64 = .i64 ∧ (0 : Int) = checkE ps bs k l))))) False) False := by
  intro hb
  have e0 : (Enc.dflt : Int) = 0 := rfl
  have e1 : (Enc.dflt : Cut) = ⟨0, 0, 0, []⟩ := rfl
  have e2 : (Enc.dflt : Bar) = ⟨0, 0, 0, 0, 0, []⟩ := rfl
  have e3 : (Enc.dflt : Used) = ⟨0, [], []⟩ := rfl
  simp only [slX, slN, avM_refl, true_and, and_true, bsel_true, bsel_false, vc_own, bif_or, bif_and, vc_gdb, vc_db, vc_lt, vc_le, vc_ne, vc_eq, vc_tt, Int.toNat_natCast, Nat.zero_add, Nat.zero_le, Nat.sub_zero, agD_bar, agOk_bar, agD_bar', agOk_bar', agD_cut, agOk_cut, agD_cut', agOk_cut', agD_used, agOk_used, agD_used', agOk_used', int_i, Bool.or_true, cond_true, cond_false, okC, okC', deC, deC', okB, deB, okB', deB', okIn, okIn', deI, deI', okU, okU', deU, deU', okBl, deBl, okUl, deUl, deIo, cutsOf_sl, deUo, e0, e1, e2, e3, ltB_nat, pred_nat]
  refine ⟨fun h1 => ?_, fun h1 => ⟨fun h2 => ?_, fun h2 => ?_⟩⟩
  · unfold checkE; rw [bne_iff_ne.2 h1]; rfl
  · unfold checkE; rw [h1, (blt_iff _ _).2 (by omega)]; rfl
  have hc : checkE ps bs k l = bif firstN (oneE (startL ps bs k) bs k l) l.length 0 != 0 then firstN (oneE (startL ps bs k) bs k l) l.length 0
      else bif Nat.blt (sumP l l.length) (startL ps bs k).length then 6 else 0 := by
    unfold checkE
    rw [h1, show Nat.blt 64 l.length = false by rw [Bool.eq_false_iff]; intro h; have := (blt_iff _ _).1 h; omega]
    rfl
  refine ⟨⟨0, ⟨by omega, fun i hi => by omega⟩, rfl, rfl⟩, fun z ⟨z1, z2⟩ => ⟨fun hz => vc_b.2 ⟨?_, fun hne => ?_, fun he => ?_⟩, fun hz => ?_⟩⟩
  · rw [show (startL ps bs k).length.ble 64 = true from Nat.ble_eq_true_of_le start_le, (leB_iff _ _).2 (by omega), (ltB_iff _ _).2 (by omega), show l.length.ble 64 = true from Nat.ble_eq_true_of_le (by omega)]; rfl
  · rw [hc, firstN_at (k := z) (by omega) z2 hne, bne_iff_ne.2 hne]; rfl
  · have h3 := sumP_le start_le z z2
    have h4 := one_ps he
    have h5 := start_le (ps := ps) (bs := bs) (k := k)
    have hu : l.getD z ⟨0, [], []⟩ = usedAt l z := rfl
    rw [hu]
    exact ⟨by omega, by simp only [inK]; omega, by simp only [inK]; omega, z + 1, ⟨⟨by omega, fun i hi => by
      by_cases e : i = z
      · rw [e]; exact he
      · exact z2 i (by omega)⟩, by omega⟩, by simp [sumP], by omega⟩
  · rw [hc, firstN_none fun i hi => z2 i (by omega), show z = l.length by omega]
    exact ⟨fun h => by rw [(blt_iff _ _).2 (by omega)]; rfl, fun h => by rw [show Nat.blt (sumP l l.length) (startL ps bs k).length = false by rw [Bool.eq_false_iff]; intro hh; have := (blt_iff _ _).1 hh; omega]; rfl⟩
end Go.Tz
