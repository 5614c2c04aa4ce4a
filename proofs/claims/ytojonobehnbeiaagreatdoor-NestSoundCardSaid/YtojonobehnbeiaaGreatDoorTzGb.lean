/- nest.First. -/
import Derived.Test.YtojonobehnbeiaaGreatDoorTzGa
import Derived.Test.YtojonobehnbeiaaGreatDoorTzEy
set_option linter.unusedSimpArgs false
namespace Go.Tz
open Go Go.Sx Go.Proofs
set_option maxRecDepth 100000
set_option maxHeartbeats 4000000
def fiB (us : List Used) : OB := .rows 50 3 us.length 1 3 1 (fun i j => Enc.enc (us.getD i u0) j) none
def usR : OB → List Used
  | .rows _ _ len _ _ _ els _ => listOf len fun i => Enc.dec (els i)
  | _ => []
theorem usR_fi (us : List Used) (a b c d e : Nat) (o : Option (Nat × AV)) : usR (.rows a b us.length c d e (fun i j => Enc.enc (us.getD i u0) j) o) = us := by
  show listOf us.length (fun i => Enc.dec (Enc.enc (us.getD i u0))) = us
  simp only [LawEnc.dec]
  exact listOf_getD us _
def cellB : OB → Nat → AV
  | .box _ _ cs, j => cs j
  | _, _ => .junk
def bgB (A : List Cut) (B : List Bar) (k : Int) (us : List Used) : OB := .box 62 5 (listFn [slE A, slE B, .i k, .ns 4 0 us.length, .ns 3 0 B.length])
def fiBl (A : List Cut) (B : List Bar) (k : Int) (us : List Used) : List (Nat × OB) :=
  [(0, .box 23 1 fun _ => slE B), (1, .box 73 1 fun _ => .np 2 0), (2, bgB A B k us), (3, tkB B us), (4, fiB us)]
structure FS where
  n : Nat
  us : List Used
structure PS where
  us : List Used
  put : Bool
structure BS where
  best : Int
  at_ : List Int
structure LS where
  i : Nat
  best : Int
  at_ : List Int
def noU1 : List Used := []
structure AddI (A : List Cut) (B : List Bar) (k : Int) (us : List Used) (n : Nat) (z : Nat) : Prop where
  le : z ≤ us.length
  no : addI A B k us n z = none
structure PutS (A : List Cut) (B : List Bar) (k : Int) (us : List Used) (n : Nat) (z : PS) : Prop where
  len : z.us.length = us.length
  yes : z.put = true → ∃ i u, addI A B k us n us.length = some i ∧ withU A B k (us.getD i u0) n = some u ∧ z.us = us.set i u
  no : z.put = false → addI A B k us n us.length = none ∧ z.us = us
structure BestS (A : List Cut) (B : List Bar) (k : Int) (us : List Used) (n m : Nat) (best : Int) (at_ : List Int) : Prop where
  h : (best, at_) = bestJ A B k us n m
def addI_an (A : List Cut) (B : List Bar) (k : Int) : Ann :=
  .two .auto (.one (.loop Nat (fun σ z => [(0, .yl 9), (1, .np 7 0), (2, .np 8 0), (12, σ.tm 12), (13, .i z)]) (fun _ _ => []) 0
    (fun σ z => AddI A B k (usR (σ.bl 4)) (AV.int (cellB (σ.bl 8) 0)).toNat z) (fun σ z => (usR (σ.bl 4)).length - z)
    (.two .auto (.two .auto (.rows (fun _ => [.back 4]) (.one
      (.rows (fun σ => [.out 4 (AV.int (σ.tm 4)).toNat]) .auto (.two .auto (.two .auto
        (.join AtS (fun σ z => [(0, .yl 9), (1, .np 7 0), (2, .np 8 0), (12, σ.tm 12), (13, σ.tm 13), (4, σ.tm 4), (6, slE z.at_), (7, .b z.is)]) (fun _ _ => []) 0
          (fun σ z => plusU A B k ((usR (σ.bl 4)).getD (AV.int (σ.tm 4)).toNat u0) (AV.int (cellB (σ.bl 8) 0)).toNat z) .auto (.split 7 .auto .auto)))))) .auto)))))
def best_an (A : List Cut) (B : List Bar) (k : Int) : Ann :=
  .two .auto (.one (.loop LS (fun σ z => [(0, .yl 11), (1, .np 9 0), (2, .np 10 0), (11, σ.tm 11), (12, σ.tm 12), (13, .i z.i)]) (fun _ z => [(7, .box 3 1 fun _ => .i z.best), (8, .box 48 1 fun _ => slE z.at_)]) 0
    (fun σ z => z.i ≤ B.length ∧ BestS A B k (usR (σ.bl 4)) (AV.int (cellB (σ.bl 10) 0)).toNat z.i z.best z.at_) (fun σ z => B.length - z.i)
    (.two .auto (.two .auto (.two (.one
      (.join Bar (fun σ _ => [(0, .yl 11), (1, .np 9 0), (2, .np 10 0), (11, σ.tm 11), (12, σ.tm 12), (13, σ.tm 13), (4, σ.tm 13), (5, .np 12 0)]) (fun σ b => [(12, .box 26 6 (Enc.enc b))]) 1 (fun σ b => b = B.getD (AV.int (σ.tm 13)).toNat b0) .auto
      (.two .auto
      (.join AtS (fun σ z => [(0, .yl 11), (1, .np 9 0), (2, .np 10 0), (11, σ.tm 11), (12, σ.tm 12), (13, σ.tm 13), (4, σ.tm 4), (6, slE z.at_), (7, .b z.is)]) (fun _ _ => []) 0
        (fun σ z => plusU A B k ⟨AV.int (σ.tm 4), [], []⟩ (AV.int (cellB (σ.bl 10) 0)).toNat z) .auto (.split 7 .auto .auto))))) .auto)))))
def first_an (A : List Cut) (B : List Bar) (k : Int) : Ann :=
  .two .auto (.two .auto (.two .auto (.join Unit (fun _ _ => [(4, .np 0 0), (8, slE A), (10, .np 1 0), (36, .np 2 0), (34, .ns 3 0 B.length)]) (fun _ _ => fiBl A B k noU1) 4 (fun _ _ => True) .auto
    (.two (.two .auto (.one (.loop FS (fun _ z => [(4, .np 0 0), (10, .np 1 0), (38, .i A.length), (39, .i z.n)]) (fun _ z => fiBl A B k z.us) 0
      (fun _ z => z.n ≤ A.length ∧ firstF A B k z.n = some z.us) (fun _ z => A.length - z.n)
      (.two .auto (.two .auto (.two (.one (.two .auto (.two .auto
        (.join PS (fun σ _ => [(4, .np 0 0), (10, .np 1 0), (38, σ.tm 38), (39, σ.tm 39), (11, .np 5 0), (12, .np 6 0)]) (fun σ p => [(4, fiB p.us), (6, .box 4 1 fun _ => .b p.put)]) 0
          (fun σ p => PutS A B k (usR (σ.bl 4)) (AV.int (σ.tm 39)).toNat p)
          (.two .auto (.one (.range (addI_an A B k) (.rows (fun σ => [.back 4, .out 4 (AV.int (σ.tm 13)).toNat]) .auto .auto) (.one (.rows (fun _ => [.back 4]) .auto .auto)))))
          (.two .auto (.two .auto (.two .auto
            (.join BS (fun σ _ => [(4, .np 0 0), (10, .np 1 0), (38, σ.tm 38), (39, σ.tm 39), (11, .np 5 0), (15, .np 7 0), (16, .np 8 0)]) (fun _ z => [(7, .box 3 1 fun _ => .i z.best), (8, .box 48 1 fun _ => slE z.at_)]) 0
              (fun σ z => BestS A B k (usR (σ.bl 4)) (AV.int (σ.tm 39)).toNat B.length z.best z.at_)
              (.two .auto (.one (.range (best_an A B k) .auto .auto)))
              .auto)))))))) .auto)))))) .auto))))
def frstE (ps : List Cut) (bs : List Bar) (k : Int) : Int :=
  bif startE ps bs k != 0 then startE ps bs k else match firstF (startL ps bs k) bs k (startL ps bs k).length with | some us => bif ltB 64 us.length then 4 else 0 | none => 22
def frstL (ps : List Cut) (bs : List Bar) (k : Int) : List Used :=
  bif frstE ps bs k == 0 then (firstF (startL ps bs k) bs k (startL ps bs k).length).getD [] else []
theorem good_start {ps : List Cut} {bs : List Bar} {k : Int} (h : startE ps bs k = 0) : GoodB bs ∧ bs.length ≤ 64 := by
  obtain ⟨h1, _⟩ := start_bars h
  refine ⟨fun b hb => ?_, bars_len h1⟩
  obtain ⟨i, hi, e⟩ := List.mem_iff_getElem.1 hb
  have := barsE_at h1 (u := ⟨(i : Int), [], []⟩) (by simp only; omega) (by simp only; omega)
  unfold barAt at this
  simp only [Int.toNat_natCast] at this
  rwa [List.getD_eq_getElem?_getD, List.getElem?_eq_getElem hi, Option.getD_some, e] at this
theorem startL_le {ps : List Cut} {bs : List Bar} {k : Int} : (startL ps bs k).length ≤ 64 := by
  unfold startL
  cases h : startE ps bs k == 0 with
  | false => exact Nat.zero_le _
  | true =>
    have h := eq_of_beq h
    unfold startE at h
    cases c1 : cutsE ps != 0 || barsE bs != 0 with
    | true => rw [c1] at h; cases h
    | false =>
      cases c2 : ltB k 0 || ltB 100 k with
      | true => rw [c1, c2] at h; cases h
      | false =>
        cases c3 : Nat.blt 64 (splitL ps).length with
        | true => rw [c1, c2, c3] at h; cases h
        | false =>
          have : ¬ 64 < (splitL ps).length := fun hh => by rw [(blt_iff _ _).2 hh] at c3; cases c3
          simp only [cond_true]; omega
theorem withU_put {A : List Cut} {B : List Bar} {k : Int} {us : List Used} {i n : Nat} {u : Used} (h : withU A B k (us.getD i u0) n = some u) :
    u = putU us i n u.at_ ∧ u.at_.length = (us.getD i u0).ps.length + 1 := by
  unfold withU at h
  cases hc : sectB (A.getD n c0) (barAt B (us.getD i u0)) && fitsOk (barAt B (us.getD i u0)) (lensL A ((us.getD i u0).ps ++ [(n : Int)])) k with
  | false => rw [hc] at h; cases h
  | true =>
    rw [hc] at h
    cases h
    rw [Bool.and_eq_true] at hc
    exact ⟨rfl, by rw [fitsAt_len hc.2]; simp [lensL]⟩
theorem withU_one {A : List Cut} {B : List Bar} {k : Int} {b : Int} {n : Nat} {u : Used} (h : withU A B k ⟨b, [], []⟩ n = some u) : u.at_.length = 1 := by
  unfold withU at h
  cases hc : sectB (A.getD n c0) (barAt B ⟨b, [], []⟩) && fitsOk (barAt B ⟨b, [], []⟩) (lensL A ([] ++ [(n : Int)])) k with
  | false => rw [hc] at h; cases h
  | true =>
    rw [hc] at h
    cases h
    rw [Bool.and_eq_true] at hc
    show (fitsAt _ _ _).length = 1
    rw [fitsAt_len hc.2]; rfl
theorem firstF_inS {A : List Cut} {B : List Bar} {k : Int} : ∀ {n : Nat} {us : List Used}, firstF A B k n = some us → InS B.length n us
  | 0, us, h => by
    cases h
    exact ⟨InU.nil _ _, Nat.le_refl _, fun u hu => (by cases hu), fun u hu => (by cases hu)⟩
  | n + 1, us', h => by
    unfold firstF at h
    split at h
    · rename_i us h1
      have ih := firstF_inS h1
      unfold stepF at h
      split at h
      · rename_i i hi
        obtain ⟨h2, u, h3⟩ := addI_some hi
        rw [h3] at h
        cases h
        obtain ⟨e1, e2⟩ := withU_put h3
        rw [e1]
        exact ih.put h2 e2
      · cases hc : ltB (bestJ A B k us n B.length).1 0 with
        | true => rw [hc] at h; cases h
        | false =>
          rw [hc] at h
          cases h
          obtain ⟨i, g1, g2, g3⟩ := bestJ_ok hc
          rw [g2]
          exact ih.new g1 (withU_one (freshU_some g3).2)
    · cases h
theorem usedN_put {us : List Used} {i : Nat} {u : Used} {A : List Cut} {B : List Bar} {k : Int} {n : Nat} (hi : i < us.length) (h : withU A B k (us.getD i u0) n = some u) (j : Int) : usedN (us.set i u) j = usedN us j :=
  usedN_set hi (withU_bar h).1 j
theorem first_none {A : List Cut} {B : List Bar} {k : Int} {m : Nat} (h : firstF A B k m = none) : ∀ {n : Nat}, m ≤ n → firstF A B k n = none
  | 0, hm => by obtain rfl : m = 0 := by omega
                exact h
  | n + 1, hm => by
    by_cases e : m = n + 1
    · rw [← e]; exact h
    · unfold firstF
      rw [first_none h (n := n) (by omega)]
noncomputable def Tfs : Tb :=
  ((((((((T0.plus 32 start_t).plus 61 lay_t).plus 80 sect_t).plus 42 or_t).plusF 70 (clone_t 3 1 8)).plusO 40 (bodyOf Tryz.prog T0 40 .auto)).plusO 41 (bodyOf Tryz.prog T0 41 .auto)).plusO 43 (bodyOf Tryz.prog T0 43 .auto))
theorem frst_vc (ps : List Cut) (bs : List Bar) (k : Int) :
 let q1 := (True ∧ Value.slice (Non Addr) 0 0 = Value.slice (Non Addr) 0 0 ∧ List.length (frstL ps bs k) = 0); let q2 := (DB.db ((0 : Int) ≤ (bs.length : Int) ∧ (bs.length : Int) ≤ (bs.length : Int) ∧ (↑8 : Int) * (bs.length : Int) ≤ (140737488355328 : Int))); let q6 := (AV.xl false 6 (bs.length) fun i j => Enc.enc (List.getD bs i Enc.dflt) j); let q5 := (slX 4 (startL (slD (AV.xl false 4 (ps.length) fun i j => Enc.enc (List.getD ps i Enc.dflt) j)) (slD q6) k)); let q4 := (True ∧ (0 = 0 ∧ 0 = 0) ∧ avM q5 (slX 4 (startL ps bs k)) ∧ (1 = 1 ∧ 0 = 0) ∧ (2 = 2 ∧ 0 = 0) ∧ 3 = 3 ∧ 0 = 0 ∧ bs.length =
 Int.toNat (bs.length : Int)); let q7 := (((((23 : TypeId) = 23 ∧ 1 = 1 ∧ avM (slX 6 bs) (slX 6 bs)) ∧ (73 : TypeId) = 73 ∧ 1 = 1 ∧ 2 = 2 ∧ 0 = 0) ∧ (62 : TypeId) = 62 ∧ 5 = 5 ∧ (((avM q5 (slX 4 (startL ps bs k)) ∧ avM (slX 6 bs) (slX 6 bs)) ∧ IntKind.i64 = .i64 ∧ k = k) ∧ some (Non Nat) = some (Non Nat) ∧ 0 = 0 ∧ 0 = 0) ∧ 3 = 3 ∧ 0 = 0 ∧ bs.length = Int.toNat (bs.length : Int)) ∧ (3 : TypeId) = 3 ∧ 1 = 1 ∧ bs.length = Int.toNat (bs.length : Int) ∧ ∀ (i j : Nat), i < Int.toNat (bs.length : Int) → j < 1 → avM (zcell (Value.int .i64 (0 : Int)) j) (AV.v (Value.int .i64 (↑(usedN noU1 (i : Int)) :
 Int)))); let q3 := (∃ (z : Unit), q4 ∧ q7 ∧ 0 = 0 ∧ Non (Nat × AV) = Non (Nat × AV)); let q8 := (IntKind.i64 = .i64 ∧ (↑(List.length (startL ps bs k)) : Int) = (↑(List.length (startL ps bs k)) : Int)); let q9 := ((23 = 23 ∧ 1 = 1 ∧ avM (slX 6 bs) (slX 6 bs)) ∧ 73 = 73 ∧ 1 = 1 ∧ 2 = 2 ∧ 0 = 0); let q10 := ((avM (slX 4 (startL ps bs k)) (slX 4 (startL ps bs k)) ∧ avM (slX 6 bs) (slX 6 bs)) ∧ IntKind.i64 = .i64 ∧ k = k); let q51 := (AV.xl false 4 (List.length (startL ps bs k)) fun i j => Enc.enc (List.getD (startL ps bs k) i Enc.dflt) j); let q58 := (IntKind.i64 = .i64 ∧ (bs.length : Int) =
 (bs.length : Int)); bndL [slX 4 ps, slX 6 bs, AV.v (Value.int .i64 k)] → bsplit (slOk Cut (slX 4 ps)) (bsplit (slOk Bar (slX 6 bs)) (bsplit (startE (slD (slX 4 ps)) (slD (slX 6 bs)) k != (0 : Int)) (2 = List.length [AV.v (Value.slice (Non Addr) 0 0), AV.v (Value.int .i64 (startE (slD (slX 4 ps)) (slD (slX 6 bs)) k))] ∧ q1 ∧ IntKind.i64 = .i64 ∧ startE (slD (slX 4 ps)) (slD (slX 6 bs)) k = frstE ps bs k) ((bsplit q2 (q3 ∧ ∃ (z : Unit), q4 ∧ q7 ∧ 0 = 0 ∧ Non (Nat × AV) = Non (Nat × AV)) False ∧ bsplit q2 q3 False) ∧ ∀ (z : Unit), True → (∃ (z : FS), ((FS.n z ≤ List.length (startL ps bs k) ∧
 firstF (startL ps bs k) bs k (FS.n z) = some (FS.us z)) ∧ (0 = 0 ∧ 0 = 0) ∧ (1 = 1 ∧ 0 = 0) ∧ q8 ∧ IntKind.i64 = .i64 ∧ (0 : Int) = (↑(FS.n z) : Int)) ∧ ((q9 ∧ 62 = 62 ∧ 5 = 5 ∧ (q10 ∧ 4 = 4 ∧ 0 = 0 ∧ List.length (FS.us z) = 0) ∧ 3 = 3 ∧ 0 = 0 ∧ bs.length = bs.length) ∧ 3 = 3 ∧ 1 = 1 ∧ bs.length = bs.length ∧ ∀ (i j : Nat), i < bs.length → j < 1 → IntKind.i64 = .i64 ∧ (↑(usedN noU1 (i : Int)) : Int) = (↑(usedN (FS.us z) (i : Int)) : Int)) ∧ ((50 = 50 ∧ 3 = 3 ∧ List.length (FS.us z) = 0) ∧ 1 = 1 ∧ 3 = 3 ∧ 1 = 1) ∧ True ∧ (∀ (i : Nat), i < 0 → 1 = 1 ∧ List.length (Used.ps (List.getD (FS.us z) i
 u0)) = List.length (Used.ps (List.getD noU1 i u0)) ∧ ∀ (i_1 j : Nat), i_1 < List.length (Used.ps (List.getD noU1 i u0)) → j < 1 → IntKind.i64 = .i64 ∧ List.getD (Used.ps (List.getD noU1 i u0)) i_1 Enc.dflt = List.getD (Used.ps (List.getD (FS.us z) i u0)) i_1 Enc.dflt) ∧ ∀ (i j : Nat), i < 0 → j < 3 → j ≠ 1 → avM (Enc.enc (List.getD noU1 i u0) j) (Enc.enc (List.getD (FS.us z) i u0) j)) ∧ ∀ (z : FS), let q12 := (fun i j => Enc.enc (List.getD (FS.us z) i u0) j); let q11 := (usR (OB.rows (50 : TypeId) 3 (List.length (FS.us z)) 1 (3 : TypeId) 1 q12 (Non (Nat × AV)))); let q13 := (Int.toNat (AV.int
 (AV.v (Value.int .i64 (↑(FS.n z) : Int))))); let q14 := (IntKind.i64 = .i64 ∧ (↑(List.length (FS.us z)) : Int) = (↑(List.length (FS.us z)) : Int)); let q16 := ((q9 ∧ 62 = 62 ∧ 5 = 5 ∧ (q10 ∧ 4 = 4 ∧ 0 = 0 ∧ List.length (FS.us z) = List.length (FS.us z)) ∧ 3 = 3 ∧ 0 = 0 ∧ bs.length = bs.length) ∧ 3 = 3 ∧ 1 = 1 ∧ bs.length = bs.length ∧ ∀ (i j : Nat), i < bs.length → j < 1 → IntKind.i64 = .i64 ∧ (↑(usedN (FS.us z) (i : Int)) : Int) = (↑(usedN (FS.us z) (i : Int)) : Int)); let q17 := ((50 = 50 ∧ 3 = 3 ∧ List.length (FS.us z) = List.length (FS.us z)) ∧ 1 = 1 ∧ 3 = 3 ∧ 1 = 1); let q18 := (∀ (i :
 Nat), i < List.length (FS.us z) → 1 = 1 ∧ List.length (Used.ps (List.getD (FS.us z) i u0)) = List.length (Used.ps (List.getD (FS.us z) i u0)) ∧ ∀ (i_1 j : Nat), i_1 < List.length (Used.ps (List.getD (FS.us z) i u0)) → j < 1 → IntKind.i64 = .i64 ∧ List.getD (Used.ps (List.getD (FS.us z) i u0)) i_1 Enc.dflt = List.getD (Used.ps (List.getD (FS.us z) i u0)) i_1 Enc.dflt); let q15 := (((((q16 ∧ q17 ∧ True ∧ q18 ∧ ∀ (i j : Nat), i < List.length (FS.us z) → j < 3 → j ≠ 1 → avM (Enc.enc (List.getD (FS.us z) i u0) j) (Enc.enc (List.getD (FS.us z) i u0) j)) ∧ 3 = 3 ∧ 1 = 1 ∧ IntKind.i64 = .i64 ∧ (↑(FS.n
 z) : Int) = (↑(FS.n z) : Int)) ∧ 4 = 4 ∧ 1 = 1 ∧ false = false) ∧ 73 = 73 ∧ 1 = 1 ∧ 2 = 2 ∧ 0 = 0) ∧ 3 = 3 ∧ 1 = 1 ∧ IntKind.i64 = .i64 ∧ (↑(FS.n z) : Int) = (↑(FS.n z) : Int)); let q23 := (DB.db ((0 : Int) ≤ (↑(FS.n z) : Int) ∧ (↑(FS.n z) : Int) < (↑(List.length (startL ps bs k)) : Int))); let q27 := (AV.agg 4 fun (i : Nat) => Enc.enc (List.getD (startL ps bs k) (Int.toNat (↑(FS.n z) : Int)) Enc.dflt) (0 + i)); let q26 := (agOk Cut q27); let q30 := (agD q27); let q49 := (IntKind.i64 = .i64 ∧ (↑(FS.n z) : Int) = (↑(FS.n z) : Int)); let q50 := (((avM q51 q51 ∧ avM q6 q6) ∧ IntKind.i64 = .i64 ∧ k
 = k) ∧ 4 = 4 ∧ 0 = 0 ∧ List.length (FS.us z) = List.length (FS.us z)); let q55 := ((((23 = 23 ∧ 1 = 1 ∧ avM q6 q6) ∧ 73 = 73 ∧ 1 = 1 ∧ 2 = 2 ∧ 0 = 0) ∧ 62 = 62 ∧ 5 = 5 ∧ q50 ∧ 3 = 3 ∧ 0 = 0 ∧ bs.length = bs.length) ∧ 3 = 3 ∧ 1 = 1 ∧ bs.length = bs.length ∧ ∀ (i j : Nat), i < bs.length → j < 1 → IntKind.i64 = .i64 ∧ (↑(usedN (FS.us z) (i : Int)) : Int) = (↑(usedN (FS.us z) (i : Int)) : Int)); let q56 := (DB.db (inK .i64 ((↑(FS.n z) : Int) + (1 : Int)))); let q78 := (Sx.rowAt [fun (x : Nat) => AV.v (Value.int .i64 (↑(FS.n z) : Int))]); let q77 := (AV.xl true 1 1 q78); let q76 := (slD q77); let
 q80 := (lensL (slD q51) q76); FS.n z ≤ List.length (startL ps bs k) ∧ firstF (startL ps bs k) bs k (FS.n z) = some (FS.us z) → bsplit (ltB (↑(FS.n z) : Int) (↑(List.length (startL ps bs k)) : Int)) (((∃ (z_1 : Nat), (AddI (startL ps bs k) bs k q11 q13 z_1 ∧ 9 = 9 ∧ (7 = 7 ∧ 0 = 0) ∧ (8 = 8 ∧ 0 = 0) ∧ q14 ∧ IntKind.i64 = .i64 ∧ (0 : Int) = (z_1 : Int)) ∧ q15 ∧ LoopState.ready = LoopState.ready ∧ Non Code = Non Code) ∧ ∀ (z_1 : Nat), let q20 := (AV.int (AV.v (Value.int .i64 (z_1 : Int)))); let q19 := (DB.db (Int.toNat q20 < List.length (FS.us z))); let q21 := (DB.db ((0 : Int) ≤ (z_1 : Int) ∧
 (z_1 : Int) < (↑(List.length (FS.us z)) : Int))); let q22 := (DB.db (0 + Int.toNat (z_1 : Int) = Int.toNat q20)); let q25 := (List.getD (FS.us z) (0 + Int.toNat (z_1 : Int)) u0); let q24 := (DB.db ((0 : Int) ≤ Used.bar q25 ∧ Used.bar q25 < (bs.length : Int))); let q29 := (List.getD bs (Int.toNat (Used.bar q25)) Enc.dflt); let q28 := (AV.agg 6 fun (i : Nat) => Enc.enc q29 (0 + i)); let q34 := (Int.toNat q20); let q33 := (Used.ps (List.getD (FS.us z) q34 u0)); let q32 := (DB.db (List.length q33 = List.length q33)); let q35 := (1 = 1 ∧ List.length q33 = List.length q33 ∧ ∀ (i j : Nat), i <
 List.length q33 → j < 1 → IntKind.i64 = .i64 ∧ List.getD q33 i Enc.dflt = List.getD q33 i Enc.dflt); let q31 := (bsplit q32 (bsplit q19 (q35 ∧ bsplit (DB.db (inK .i64 ((z_1 : Int) + (1 : Int)))) (∃ (z' : Nat), ((AddI (startL ps bs k) bs k q11 q13 z' ∧ List.length q11 - z' < List.length q11 - z_1) ∧ 9 = 9 ∧ (7 = 7 ∧ 0 = 0) ∧ (8 = 8 ∧ 0 = 0) ∧ q14 ∧ IntKind.i64 = .i64 ∧ (z_1 : Int) + (1 : Int) = (z' : Int)) ∧ q15 ∧ LoopState.ready = LoopState.ready ∧ Non Code = Non Code) False) False) False); let q37 := (List.length q33 + 1); let q36 := (DB.db (q37 * 8 ≤ 140737488355328)); let q38 := (AV.agg 6
 (listFn [AV.v (Value.int .i64 (Bar.w q29)), AV.v (Value.int .i64 (Bar.d q29)), AV.v (Value.int .i64 (Bar.l q29)), AV.v (Value.int .i64 (Bar.n q29)), AV.v (Value.int .i64 (Bar.c q29)), slX 2 (Bar.gs q29)])); let q39 := (AV.xl false 1 q37 fun i j => if 0 + i < List.length q33 then AV.v (Value.int .i64 (List.getD q33 (0 + i) Enc.dflt)) else Sx.rowAt [fun (x : Nat) => AV.v (Value.int .i64 (↑(FS.n z) : Int))] (0 + i - List.length q33) j); let q40 := (slD q39); let q41 := (List.getD (usR (OB.rows (50 : TypeId) 3 (List.length (FS.us z)) 1 (3 : TypeId) 1 q12 (some (Int.toNat q20, AV.ns (nat_lit 10) 0
 (List.length q33))))) q34 u0); let q42 := (IntKind.i64 = .i64 ∧ (z_1 : Int) = (z_1 : Int)); let q44 := (agD q38); let q45 := (lensL (slD (slX 4 (startL ps bs k))) q40); let q43 := (fitsAt q44 q45 k); let q46 := (slN (Used.at_ q25)); let q48 := (DB.db (List.length q33 + 1 = List.length q33 + 1)); AddI (startL ps bs k) bs k q11 q13 z_1 → bsplit (ltB (z_1 : Int) (↑(List.length (FS.us z)) : Int)) (bsplit q19 (bsplit q21 (bsplit q22 (bsplit q23 (bsplit q24 (bsplit q26 (bsplit (agOk Bar q28) (bsplit (!sectB q30 (agD q28)) q31 (bsplit q24 (bsplit (DB.db (List.length q33 * 8 ≤ 140737488355328)) ((∀ (i
 j : Nat), i < List.length q33 → j < 1 → AV.scalar (AV.v (Value.int .i64 (List.getD q33 i Enc.dflt))) = true) ∧ bsplit q36 (bsplit (slOk Cut (slX 4 (startL ps bs k))) (bsplit (agOk Bar q38) (bsplit (slOk Int q39) (bsplit (inL (slD (slX 4 (startL ps bs k))) q40 && Nat.blt (List.length (intsOf q39)) 1000000000) (∃ (z_2 : AtS), (plusU (startL ps bs k) bs k q41 q13 z_2 ∧ 9 = 9 ∧ (7 = 7 ∧ 0 = 0) ∧ (8 = 8 ∧ 0 = 0) ∧ q14 ∧ q42 ∧ q42 ∧ avM (AV.xl false 1 (List.length q43) fun i j => AV.v (Value.int .i64 (List.getD q43 i Enc.dflt))) (slN (AtS.at_ z_2)) ∧ fitsOk q44 q45 k = AtS.is z_2) ∧ (((((((q16 ∧ q17
 ∧ (Int.toNat q20 = Int.toNat q20 ∧ nat_lit 10 = 10 ∧ 0 = 0 ∧ List.length q33 = List.length q33) ∧ q18 ∧ ∀ (i j : Nat), i < List.length (FS.us z) → j < 3 → j ≠ 1 → avM (Enc.enc (List.getD (FS.us z) i u0) j) (Enc.enc (List.getD (FS.us z) i u0) j)) ∧ 3 = 3 ∧ 1 = 1 ∧ IntKind.i64 = .i64 ∧ (↑(FS.n z) : Int) = (↑(FS.n z) : Int)) ∧ 4 = 4 ∧ 1 = 1 ∧ false = false) ∧ 73 = 73 ∧ 1 = 1 ∧ 2 = 2 ∧ 0 = 0) ∧ 3 = 3 ∧ 1 = 1 ∧ IntKind.i64 = .i64 ∧ (↑(FS.n z) : Int) = (↑(FS.n z) : Int)) ∧ LoopState.ready = LoopState.ready ∧ Non Code = Non Code) ∧ 3 = 3 ∧ 1 = 1 ∧ List.length q33 = List.length q33 ∧ ∀ (i j : Nat), i <
 List.length q33 → j < 1 → IntKind.i64 = .i64 ∧ List.getD q33 i Enc.dflt = List.getD q33 i Enc.dflt) ∧ 50 = 50 ∧ 3 = 3 ∧ ((IntKind.i64 = .i64 ∧ Used.bar q25 = Used.bar q25) ∧ nat_lit 10 = 10 ∧ 0 = 0 ∧ List.length q33 = List.length q33) ∧ avM q46 q46) False) False) False) False) False) False) False ∧ ∀ (z_2 : AtS), let q47 := (bsplit q21 (bsplit q48 (bsplit q19 (∃ (z_3 : PS), (PutS (startL ps bs k) bs k q11 q13 z_3 ∧ (0 = 0 ∧ 0 = 0) ∧ (1 = 1 ∧ 0 = 0) ∧ q8 ∧ q49 ∧ (5 = 5 ∧ 0 = 0) ∧ 6 = 6 ∧ 0 = 0) ∧ ((((q9 ∧ 62 = 62 ∧ 5 = 5 ∧ q50 ∧ 3 = 3 ∧ 0 = 0 ∧ bs.length = bs.length) ∧ 3 = 3 ∧ 1 = 1 ∧ bs.length
 = bs.length ∧ ∀ (i j : Nat), i < bs.length → j < 1 → IntKind.i64 = .i64 ∧ (↑(usedN (FS.us z) (i : Int)) : Int) = (↑(usedN (FS.us z) (i : Int)) : Int)) ∧ ((50 = 50 ∧ 3 = 3 ∧ List.length (PS.us z_3) = List.length (FS.us z)) ∧ 1 = 1 ∧ 3 = 3 ∧ 1 = 1) ∧ True ∧ (∀ (i : Nat), i < List.length (FS.us z) → rowM (if i = Int.toNat q20 ∧ 1 = 1 then AV.xl false 1 q37 fun (a b : Nat) => if a < List.length q33 then AV.v (Value.int .i64 (List.getD q33 a Enc.dflt)) else Sx.rowAt [fun (x : Nat) => AV.v (Value.int .i64 (↑(FS.n z) : Int))] (a - List.length q33) b else if i = 0 + Int.toNat (z_1 : Int) ∧ 1 = 2 then
 AV.xl false 1 (List.length (AtS.at_ z_2)) fun i j => AV.v (Value.int .i64 (List.getD (AtS.at_ z_2) i Enc.dflt)) else AV.xl false 1 (List.length (Used.ps (List.getD (FS.us z) i u0))) fun (i_1 j : Nat) => AV.v (Value.int .i64 (List.getD (Used.ps (List.getD (FS.us z) i u0)) i_1 Enc.dflt))) (AV.xl false 1 (List.length (Used.ps (List.getD (PS.us z_3) i u0))) fun (i_1 j : Nat) => AV.v (Value.int .i64 (List.getD (Used.ps (List.getD (PS.us z_3) i u0)) i_1 Enc.dflt)))) ∧ ∀ (i j : Nat), i < List.length (FS.us z) → j < 3 → j ≠ 1 → avM (if i = Int.toNat q20 ∧ j = 1 then AV.xl false 1 q37 fun (a b : Nat) =>
 if a < List.length q33 then AV.v (Value.int .i64 (List.getD q33 a Enc.dflt)) else Sx.rowAt [fun (x : Nat) => AV.v (Value.int .i64 (↑(FS.n z) : Int))] (a - List.length q33) b else if i = 0 + Int.toNat (z_1 : Int) ∧ j = 2 then AV.xl false 1 (List.length (AtS.at_ z_2)) fun i j => AV.v (Value.int .i64 (List.getD (AtS.at_ z_2) i Enc.dflt)) else Enc.enc (List.getD (FS.us z) i u0) j) (Enc.enc (List.getD (PS.us z_3) i u0) j)) ∧ 3 = 3 ∧ 1 = 1 ∧ IntKind.i64 = .i64 ∧ (↑(FS.n z) : Int) = (↑(FS.n z) : Int)) ∧ (4 : TypeId) = 4 ∧ 1 = 1 ∧ true = PS.put z_3) False) False) False); let q52 := (bsplit q21 (bsplit
 q22 q47 False) False); let q54 := (bsplit q21 (bsplit q48 (bsplit q19 (∃ (z_3 : PS), (PutS (startL ps bs k) bs k q11 q13 z_3 ∧ (0 = 0 ∧ 0 = 0) ∧ (1 = 1 ∧ 0 = 0) ∧ q8 ∧ q49 ∧ (5 = 5 ∧ 0 = 0) ∧ 6 = 6 ∧ 0 = 0) ∧ ((q55 ∧ ((50 = 50 ∧ 3 = 3 ∧ List.length (PS.us z_3) = List.length (FS.us z)) ∧ 1 = 1 ∧ 3 = 3 ∧ 1 = 1) ∧ True ∧ (∀ (i : Nat), i < List.length (FS.us z) → rowM (if i = Int.toNat q20 ∧ 1 = 1 then AV.xl false 1 q37 fun (a b : Nat) => if a < List.length q33 then AV.v (Value.int .i64 (List.getD q33 a Enc.dflt)) else Sx.rowAt [fun (x : Nat) => AV.v (Value.int .i64 (↑(FS.n z) : Int))] (a -
 List.length q33) b else if i = 0 + Int.toNat (z_1 : Int) ∧ 1 = 2 then AV.xl false 1 (List.length (AtS.at_ z_2)) fun i j => AV.v (Value.int .i64 (List.getD (AtS.at_ z_2) i Enc.dflt)) else AV.xl false 1 (List.length (Used.ps (List.getD (FS.us z) i u0))) fun (i_1 j : Nat) => AV.v (Value.int .i64 (List.getD (Used.ps (List.getD (FS.us z) i u0)) i_1 Enc.dflt))) (AV.xl false 1 (List.length (Used.ps (List.getD (PS.us z_3) i u0))) fun (i_1 j : Nat) => AV.v (Value.int .i64 (List.getD (Used.ps (List.getD (PS.us z_3) i u0)) i_1 Enc.dflt)))) ∧ ∀ (i j : Nat), i < List.length (FS.us z) → j < 3 → j ≠ 1 → avM
 (if i = Int.toNat q20 ∧ j = 1 then AV.xl false 1 q37 fun (a b : Nat) => if a < List.length q33 then AV.v (Value.int .i64 (List.getD q33 a Enc.dflt)) else Sx.rowAt [fun (x : Nat) => AV.v (Value.int .i64 (↑(FS.n z) : Int))] (a - List.length q33) b else if i = 0 + Int.toNat (z_1 : Int) ∧ j = 2 then AV.xl false 1 (List.length (AtS.at_ z_2)) fun i j => AV.v (Value.int .i64 (List.getD (AtS.at_ z_2) i Enc.dflt)) else Enc.enc (List.getD (FS.us z) i u0) j) (Enc.enc (List.getD (PS.us z_3) i u0) j)) ∧ 3 = 3 ∧ 1 = 1 ∧ IntKind.i64 = .i64 ∧ (↑(FS.n z) : Int) = (↑(FS.n z) : Int)) ∧ (4 : TypeId) = 4 ∧ 1 = 1 ∧
 true = PS.put z_3) False) False) False); let q53 := (bsplit q22 q54 False ∧ bsplit q22 q54 False); plusU (startL ps bs k) bs k q41 q13 z_2 → bsplit (AtS.is z_2) (bsplit q32 (bsplit q19 (q35 ∧ bsplit q19 (bsplit q21 (bsplit q22 ((bsplit q36 (bsplit q21 (bsplit q22 q47 False ∧ bsplit q22 q47 False) False) False ∧ bsplit q36 q52 False) ∧ bsplit q36 (bsplit q21 (q53 ∧ q53 ∧ bsplit q22 q54 False) False) False ∧ bsplit q36 q52 False ∧ bsplit q36 (bsplit q21 q53 False) False) False) False) False) False) False) q31)) False) False) False) False) False) False) False) (∃ (z_2 : PS), (PutS (startL ps bs k)
 bs k q11 q13 z_2 ∧ (0 = 0 ∧ 0 = 0) ∧ (1 = 1 ∧ 0 = 0) ∧ q8 ∧ q49 ∧ (5 = 5 ∧ 0 = 0) ∧ 6 = 6 ∧ 0 = 0) ∧ ((q16 ∧ ((50 = 50 ∧ 3 = 3 ∧ List.length (PS.us z_2) = List.length (FS.us z)) ∧ 1 = 1 ∧ 3 = 3 ∧ 1 = 1) ∧ True ∧ (∀ (i : Nat), i < List.length (FS.us z) → 1 = 1 ∧ List.length (Used.ps (List.getD (PS.us z_2) i u0)) = List.length (Used.ps (List.getD (FS.us z) i u0)) ∧ ∀ (i_1 j : Nat), i_1 < List.length (Used.ps (List.getD (FS.us z) i u0)) → j < 1 → IntKind.i64 = .i64 ∧ List.getD (Used.ps (List.getD (FS.us z) i u0)) i_1 Enc.dflt = List.getD (Used.ps (List.getD (PS.us z_2) i u0)) i_1 Enc.dflt) ∧ ∀ (i
 j : Nat), i < List.length (FS.us z) → j < 3 → j ≠ 1 → avM (Enc.enc (List.getD (FS.us z) i u0) j) (Enc.enc (List.getD (PS.us z_2) i u0) j)) ∧ 3 = 3 ∧ 1 = 1 ∧ IntKind.i64 = .i64 ∧ (↑(FS.n z) : Int) = (↑(FS.n z) : Int)) ∧ (4 : TypeId) = 4 ∧ 1 = 1 ∧ false = PS.put z_2)) ∧ ∀ (z_1 : PS), let q57 := (usR (OB.rows (50 : TypeId) 3 (List.length (PS.us z_1)) 1 (3 : TypeId) 1 (fun i j => Enc.enc (List.getD (PS.us z_1) i u0) j) (Non (Nat × AV)))); let q60 := ((50 = 50 ∧ 3 = 3 ∧ List.length (PS.us z_1) = List.length (PS.us z_1)) ∧ 1 = 1 ∧ 3 = 3 ∧ 1 = 1); let q61 := (∀ (i : Nat), i < List.length (PS.us z_1) →
 1 = 1 ∧ List.length (Used.ps (List.getD (PS.us z_1) i u0)) = List.length (Used.ps (List.getD (PS.us z_1) i u0)) ∧ ∀ (i_1 j : Nat), i_1 < List.length (Used.ps (List.getD (PS.us z_1) i u0)) → j < 1 → IntKind.i64 = .i64 ∧ List.getD (Used.ps (List.getD (PS.us z_1) i u0)) i_1 Enc.dflt = List.getD (Used.ps (List.getD (PS.us z_1) i u0)) i_1 Enc.dflt); let q59 := (((q16 ∧ q60 ∧ True ∧ q61 ∧ ∀ (i j : Nat), let q62 := (Enc.enc (List.getD (PS.us z_1) i u0) j); i < List.length (PS.us z_1) → j < 3 → j ≠ 1 → avM q62 q62) ∧ 3 = 3 ∧ 1 = 1 ∧ IntKind.i64 = .i64 ∧ (↑(FS.n z) : Int) = (↑(FS.n z) : Int)) ∧ 4 = 4 ∧
 1 = 1 ∧ PS.put z_1 = PS.put z_1); let q74 := (((q55 ∧ q60 ∧ True ∧ q61 ∧ ∀ (i j : Nat), let q75 := (Enc.enc (List.getD (PS.us z_1) i u0) j); i < List.length (PS.us z_1) → j < 3 → j ≠ 1 → avM q75 q75) ∧ 3 = 3 ∧ 1 = 1 ∧ IntKind.i64 = .i64 ∧ (↑(FS.n z) : Int) = (↑(FS.n z) : Int)) ∧ 4 = 4 ∧ 1 = 1 ∧ PS.put z_1 = PS.put z_1); PutS (startL ps bs k) bs k q11 q13 z_1 → bsplit (PS.put z_1) (bsplit q56 (∃ (z' : FS), (((FS.n z' ≤ List.length (startL ps bs k) ∧ firstF (startL ps bs k) bs k (FS.n z') = some (FS.us z')) ∧ List.length (startL ps bs k) - FS.n z' < List.length (startL ps bs k) - FS.n z) ∧ (0 = 0
 ∧ 0 = 0) ∧ (1 = 1 ∧ 0 = 0) ∧ q8 ∧ IntKind.i64 = .i64 ∧ (↑(FS.n z) : Int) + (1 : Int) = (↑(FS.n z') : Int)) ∧ ((q9 ∧ 62 = 62 ∧ 5 = 5 ∧ (q10 ∧ 4 = 4 ∧ 0 = 0 ∧ List.length (FS.us z') = List.length (FS.us z)) ∧ 3 = 3 ∧ 0 = 0 ∧ bs.length = bs.length) ∧ 3 = 3 ∧ 1 = 1 ∧ bs.length = bs.length ∧ ∀ (i j : Nat), i < bs.length → j < 1 → IntKind.i64 = .i64 ∧ (↑(usedN (FS.us z) (i : Int)) : Int) = (↑(usedN (FS.us z') (i : Int)) : Int)) ∧ ((50 = 50 ∧ 3 = 3 ∧ List.length (FS.us z') = List.length (PS.us z_1)) ∧ 1 = 1 ∧ 3 = 3 ∧ 1 = 1) ∧ True ∧ (∀ (i : Nat), i < List.length (PS.us z_1) → 1 = 1 ∧ List.length
 (Used.ps (List.getD (FS.us z') i u0)) = List.length (Used.ps (List.getD (PS.us z_1) i u0)) ∧ ∀ (i_1 j : Nat), i_1 < List.length (Used.ps (List.getD (PS.us z_1) i u0)) → j < 1 → IntKind.i64 = .i64 ∧ List.getD (Used.ps (List.getD (PS.us z_1) i u0)) i_1 Enc.dflt = List.getD (Used.ps (List.getD (FS.us z') i u0)) i_1 Enc.dflt) ∧ ∀ (i j : Nat), i < List.length (PS.us z_1) → j < 3 → j ≠ 1 → avM (Enc.enc (List.getD (PS.us z_1) i u0) j) (Enc.enc (List.getD (FS.us z') i u0) j)) False) (((∃ (z_2 : LS), ((LS.i z_2 ≤ bs.length ∧ BestS (startL ps bs k) bs k q57 q13 (LS.i z_2) (LS.best z_2) (LS.at_ z_2)) ∧ 11
 = 11 ∧ (9 = 9 ∧ 0 = 0) ∧ (10 = 10 ∧ 0 = 0) ∧ avM (slX 6 bs) (slX 6 bs) ∧ q58 ∧ IntKind.i64 = .i64 ∧ (0 : Int) = (↑(LS.i z_2) : Int)) ∧ ((((q59 ∧ (3 : TypeId) = 3 ∧ 1 = 1 ∧ IntKind.i64 = .i64 ∧ (-1 : Int) = LS.best z_2) ∧ (48 : TypeId) = 48 ∧ 1 = 1 ∧ Value.slice (Non Addr) 0 0 = Value.slice (Non Addr) 0 0 ∧ List.length (LS.at_ z_2) = 0) ∧ 73 = 73 ∧ 1 = 1 ∧ 2 = 2 ∧ 0 = 0) ∧ 3 = 3 ∧ 1 = 1 ∧ IntKind.i64 = .i64 ∧ (↑(FS.n z) : Int) = (↑(FS.n z) : Int)) ∧ LoopState.ready = LoopState.ready ∧ Non Code = Non Code) ∧ ∀ (z_2 : LS), let q63 := ((0 : Int) ≤ (↑(LS.i z_2) : Int) ∧ (↑(LS.i z_2) : Int) <
 (bs.length : Int)); let q65 := (AV.int (AV.v (Value.int .i64 (↑(LS.i z_2) : Int)))); let q64 := (Int.toNat q65); let q66 := (IntKind.i64 = .i64 ∧ (↑(LS.i z_2) : Int) = (↑(LS.i z_2) : Int)); let q67 := (List.getD bs (Int.toNat (↑(LS.i z_2) : Int)) Enc.dflt); let q73 := (DB.db (inK .i64 ((↑(LS.i z_2) : Int) + (1 : Int)))); let q72 := (bsplit q73 (∃ (z' : LS), (((LS.i z' ≤ bs.length ∧ BestS (startL ps bs k) bs k q57 q13 (LS.i z') (LS.best z') (LS.at_ z')) ∧ bs.length - LS.i z' < bs.length - LS.i z_2) ∧ 11 = 11 ∧ (9 = 9 ∧ 0 = 0) ∧ (10 = 10 ∧ 0 = 0) ∧ avM (slX 6 bs) (slX 6 bs) ∧ q58 ∧ IntKind.i64 =
 .i64 ∧ (↑(LS.i z_2) : Int) + (1 : Int) = (↑(LS.i z') : Int)) ∧ ((((q74 ∧ 3 = 3 ∧ 1 = 1 ∧ IntKind.i64 = .i64 ∧ LS.best z_2 = LS.best z') ∧ 48 = 48 ∧ 1 = 1 ∧ avM (slN (LS.at_ z_2)) (slN (LS.at_ z'))) ∧ 73 = 73 ∧ 1 = 1 ∧ 2 = 2 ∧ 0 = 0) ∧ 3 = 3 ∧ 1 = 1 ∧ IntKind.i64 = .i64 ∧ (↑(FS.n z) : Int) = (↑(FS.n z) : Int)) ∧ LoopState.ready = LoopState.ready ∧ Non Code = Non Code) False); let q79 := (Used.mk q65 [] []); let q81 := (!bsel false (ltB (LS.best z_2) (0 : Int)) || bsel false (ltB (LS.best z_2) (0 : Int))); let q82 := (!bsel false (ltB (LS.best z_2) (0 : Int)) || DB.db q63); let q83 := (!bsel
 false (ltB (LS.best z_2) (0 : Int)) || DB.db ((0 : Int) ≤ LS.best z_2 ∧ LS.best z_2 < (bs.length : Int))); let q85 := (List.getD bs (Int.toNat (LS.best z_2)) Enc.dflt); let q84 := (Bar.l q67 - Bar.l q85); let q86 := (Bar.c q67 - Bar.c q85); LS.i z_2 ≤ bs.length ∧ BestS (startL ps bs k) bs k q57 q13 (LS.i z_2) (LS.best z_2) (LS.at_ z_2) → bsplit (ltB (↑(LS.i z_2) : Int) (bs.length : Int)) (bsplit (DB.db q63) (∃ (z_3 : Bar), (z_3 = List.getD bs q64 b0 ∧ 11 = 11 ∧ (9 = 9 ∧ 0 = 0) ∧ (10 = 10 ∧ 0 = 0) ∧ avM (slX 6 bs) (slX 6 bs) ∧ q58 ∧ q66 ∧ q66 ∧ 12 = 12 ∧ 0 = 0) ∧ (((((q59 ∧ 3 = 3 ∧ 1 = 1 ∧
 IntKind.i64 = .i64 ∧ LS.best z_2 = LS.best z_2) ∧ 48 = 48 ∧ 1 = 1 ∧ avM (slN (LS.at_ z_2)) (slN (LS.at_ z_2))) ∧ 73 = 73 ∧ 1 = 1 ∧ 2 = 2 ∧ 0 = 0) ∧ 3 = 3 ∧ 1 = 1 ∧ IntKind.i64 = .i64 ∧ (↑(FS.n z) : Int) = (↑(FS.n z) : Int)) ∧ LoopState.ready = LoopState.ready ∧ Non Code = Non Code) ∧ (26 : TypeId) = 26 ∧ 6 = 6 ∧ (((((IntKind.i64 = .i64 ∧ Bar.w q67 = Bar.w z_3) ∧ IntKind.i64 = .i64 ∧ Bar.d q67 = Bar.d z_3) ∧ IntKind.i64 = .i64 ∧ Bar.l q67 = Bar.l z_3) ∧ IntKind.i64 = .i64 ∧ Bar.n q67 = Bar.n z_3) ∧ IntKind.i64 = .i64 ∧ Bar.c q67 = Bar.c z_3) ∧ avM (slX 2 (Bar.gs q67)) (slX 2 (Bar.gs z_3))) False
 ∧ ∀ (z_3 : Bar), let q69 := (AV.agg 6 fun (i : Nat) => Enc.enc z_3 (0 + i)); let q68 := (agOk Bar q69); let q71 := (agD q69); let q70 := (!bsel false !sectB q30 q71 || bsel false !sectB q30 q71); z_3 = List.getD bs q64 b0 → bsplit q23 (bsplit q26 (bsplit q68 (bsplit q70 (bsplit q70 (bsplit q70 (bsplit q70 (bsplit q70 (bsplit (!bsel false !sectB q30 q71 || DB.db q63) (bsplit q70 (bsplit q70 (bsplit q70 (bsplit q70 (bsplit (!!!sectB q30 q71 || bsel false !sectB q30 q71) (bsplit (bif !sectB q30 q71 then true else leB (Bar.n z_3) (↑(usedN (FS.us z) (↑(0 + Int.toNat (↑(LS.i z_2) : Int)) : Int)) :
 Int)) q72 (bsplit (slOk Cut (slX 4 (startL ps bs k))) (bsplit q68 (bsplit (inL (slD (slX 4 (startL ps bs k))) q76 && Nat.blt (List.length (intsOf q77)) 1000000000) (∃ (z_4 : AtS), (plusU (startL ps bs k) bs k q79 q13 z_4 ∧ 11 = 11 ∧ (9 = 9 ∧ 0 = 0) ∧ (10 = 10 ∧ 0 = 0) ∧ avM (slX 6 bs) (slX 6 bs) ∧ q58 ∧ q66 ∧ q66 ∧ avM (slN (fitsAt q71 q80 k)) (slN (AtS.at_ z_4)) ∧ fitsOk q71 q80 k = AtS.is z_4) ∧ (((((q74 ∧ 3 = 3 ∧ 1 = 1 ∧ IntKind.i64 = .i64 ∧ LS.best z_2 = LS.best z_2) ∧ 48 = 48 ∧ 1 = 1 ∧ avM (slN (LS.at_ z_2)) (slN (LS.at_ z_2))) ∧ 73 = 73 ∧ 1 = 1 ∧ 2 = 2 ∧ 0 = 0) ∧ 3 = 3 ∧ 1 = 1 ∧
 IntKind.i64 = .i64 ∧ (↑(FS.n z) : Int) = (↑(FS.n z) : Int)) ∧ LoopState.ready = LoopState.ready ∧ Non Code = Non Code) ∧ 26 = 26 ∧ 6 = 6 ∧ (((((IntKind.i64 = .i64 ∧ Bar.w z_3 = Bar.w z_3) ∧ IntKind.i64 = .i64 ∧ Bar.d z_3 = Bar.d z_3) ∧ IntKind.i64 = .i64 ∧ Bar.l z_3 = Bar.l z_3) ∧ IntKind.i64 = .i64 ∧ Bar.n z_3 = Bar.n z_3) ∧ IntKind.i64 = .i64 ∧ Bar.c z_3 = Bar.c z_3) ∧ avM (slX 2 (Bar.gs z_3)) (slX 2 (Bar.gs z_3))) False) False) False ∧ ∀ (z_4 : AtS), plusU (startL ps bs k) bs k q79 q13 z_4 → bsplit (AtS.is z_4) (bsplit q81 (bsplit q81 (bsplit q82 (bsplit q81 (bsplit q81 (bsplit q81 (bsplit
 q81 (bsplit q83 (bsplit q81 (bsplit q81 (bsplit q81 (bsplit q81 (bsplit (!bsel false (ltB (LS.best z_2) (0 : Int)) || DB.db (inK .i64 q84)) (bsplit q81 (bsplit q81 (bsplit q82 (bsplit q81 (bsplit q81 (bsplit q81 (bsplit q81 (bsplit q83 (bsplit q81 (bsplit q81 (bsplit q81 (bsplit q81 (bsplit (!bsel false (ltB (LS.best z_2) (0 : Int)) || DB.db (inK .i64 q86)) (bsplit q81 (bsplit q81 (bsplit q81 (bsplit (!bsel false (ltB (LS.best z_2) (0 : Int)) || allI 2 (Sx.rowAt [fun (x : Nat) => AV.v (Value.int .i64 q84), fun (x : Nat) => AV.v (Value.int .i64 q86)])) (bsplit q81 (bsplit (!!ltB (LS.best z_2) (0
 : Int) || bsel false (ltB (LS.best z_2) (0 : Int))) (bsplit (bif ltB (LS.best z_2) (0 : Int) then true else ltB (orF (fun (i : Nat) => AV.int (Sx.rowAt [fun (x : Nat) => AV.v (Value.int .i64 q84), fun (x : Nat) => AV.v (Value.int .i64 q86)] i 0)) 2 0) (0 : Int)) (bsplit q73 (∃ (z' : LS), (((LS.i z' ≤ bs.length ∧ BestS (startL ps bs k) bs k q57 q13 (LS.i z') (LS.best z') (LS.at_ z')) ∧ bs.length - LS.i z' < bs.length - LS.i z_2) ∧ 11 = 11 ∧ (9 = 9 ∧ 0 = 0) ∧ (10 = 10 ∧ 0 = 0) ∧ avM q6 q6 ∧ q58 ∧ IntKind.i64 = .i64 ∧ (↑(LS.i z_2) : Int) + (1 : Int) = (↑(LS.i z') : Int)) ∧ ((((q74 ∧ 3 = 3 ∧ 1 = 1
 ∧ IntKind.i64 = .i64 ∧ (↑(LS.i z_2) : Int) = LS.best z') ∧ 48 = 48 ∧ 1 = 1 ∧ avM (AV.xl false 1 (List.length (AtS.at_ z_4)) fun i j => AV.v (Value.int .i64 (List.getD (AtS.at_ z_4) i Enc.dflt))) (AV.xl false 1 (List.length (LS.at_ z')) fun i j => AV.v (Value.int .i64 (List.getD (LS.at_ z') i Enc.dflt)))) ∧ 73 = 73 ∧ 1 = 1 ∧ 2 = 2 ∧ 0 = 0) ∧ 3 = 3 ∧ 1 = 1 ∧ IntKind.i64 = .i64 ∧ (↑(FS.n z) : Int) = (↑(FS.n z) : Int)) ∧ LoopState.ready = LoopState.ready ∧ Non Code = Non Code) False) (bsplit q73 (∃ (z' : LS), (((LS.i z' ≤ bs.length ∧ BestS (startL ps bs k) bs k q57 q13 (LS.i z') (LS.best z')
 (LS.at_ z')) ∧ bs.length - LS.i z' < bs.length - LS.i z_2) ∧ 11 = 11 ∧ (9 = 9 ∧ 0 = 0) ∧ (10 = 10 ∧ 0 = 0) ∧ avM q6 q6 ∧ q58 ∧ IntKind.i64 = .i64 ∧ (↑(LS.i z_2) : Int) + (1 : Int) = (↑(LS.i z') : Int)) ∧ ((((q74 ∧ 3 = 3 ∧ 1 = 1 ∧ IntKind.i64 = .i64 ∧ LS.best z_2 = LS.best z') ∧ 48 = 48 ∧ 1 = 1 ∧ avM (AV.xl false 1 (List.length (LS.at_ z_2)) fun i j => AV.v (Value.int .i64 (List.getD (LS.at_ z_2) i Enc.dflt))) (AV.xl false 1 (List.length (LS.at_ z')) fun i j => AV.v (Value.int .i64 (List.getD (LS.at_ z') i Enc.dflt)))) ∧ 73 = 73 ∧ 1 = 1 ∧ 2 = 2 ∧ 0 = 0) ∧ 3 = 3 ∧ 1 = 1 ∧ IntKind.i64 = .i64 ∧
 (↑(FS.n z) : Int) = (↑(FS.n z) : Int)) ∧ LoopState.ready = LoopState.ready ∧ Non Code = Non Code) False)) False) False) False) False) False) False) False) False) False) False) False) False) False) False) False) False) False) False) False) False) False) False) False) False) False) False) False) False) False) False) False) False) q72)) False) False) False) False) False) False) False) False) False) False) False) False) False) False) (∃ (z_3 : BS), (BestS (startL ps bs k) bs k q57 q13 (bs.length) (BS.best z_3) (BS.at_ z_3) ∧ (0 = 0 ∧ 0 = 0) ∧ (1 = 1 ∧ 0 = 0) ∧ q8 ∧ q49 ∧ (5 = 5 ∧ 0 = 0) ∧ (7 = 7 ∧
 0 = 0) ∧ 8 = 8 ∧ 0 = 0) ∧ (q59 ∧ 3 = 3 ∧ 1 = 1 ∧ IntKind.i64 = .i64 ∧ LS.best z_2 = BS.best z_3) ∧ 48 = 48 ∧ 1 = 1 ∧ avM (slN (LS.at_ z_2)) (slN (BS.at_ z_3)))) ∧ ∀ (z_2 : BS), let q87 := (DB.db ((0 : Int) ≤ BS.best z_2 ∧ BS.best z_2 < (bs.length : Int))); let q88 := ((↑(usedN (FS.us z) (↑(0 + Int.toNat (BS.best z_2)) : Int)) : Int) + (1 : Int)); BestS (startL ps bs k) bs k q57 q13 (bs.length) (BS.best z_2) (BS.at_ z_2) → bsplit (ltB (BS.best z_2) (0 : Int)) (2 = List.length [AV.v (Value.slice (Non Addr) 0 0), AV.v (Value.int .i64 (22 : Int))] ∧ q1 ∧ IntKind.i64 = .i64 ∧ (22 : Int) = frstE ps
 bs k) (bsplit (DB.db (List.length (FS.us z) ≤ List.length (PS.us z_1))) (bsplit (DB.db ((List.length (FS.us z) + 1) * 56 ≤ 140737488355328)) (bsplit q87 (bsplit (DB.db (inK .i64 q88)) (bsplit q87 (bsplit q56 (∃ (z' : FS), (((FS.n z' ≤ List.length (startL ps bs k) ∧ firstF (startL ps bs k) bs k (FS.n z') = some (FS.us z')) ∧ List.length (startL ps bs k) - FS.n z' < List.length (startL ps bs k) - FS.n z) ∧ (0 = 0 ∧ 0 = 0) ∧ (1 = 1 ∧ 0 = 0) ∧ q8 ∧ IntKind.i64 = .i64 ∧ (↑(FS.n z) : Int) + (1 : Int) = (↑(FS.n z') : Int)) ∧ ((q9 ∧ 62 = 62 ∧ 5 = 5 ∧ (q10 ∧ 4 = 4 ∧ 0 = 0 ∧ List.length (FS.us z') =
 List.length (FS.us z) + 1) ∧ 3 = 3 ∧ 0 = 0 ∧ bs.length = bs.length) ∧ 3 = 3 ∧ 1 = 1 ∧ bs.length = bs.length ∧ ∀ (i j : Nat), i < bs.length → j < 1 → avM (if i = 0 + Int.toNat (BS.best z_2) ∧ 0 ≤ j ∧ j < 1 then AV.v (Value.int .i64 q88) else AV.v (Value.int .i64 (↑(usedN (FS.us z) (i : Int)) : Int))) (AV.v (Value.int .i64 (↑(usedN (FS.us z') (i : Int)) : Int)))) ∧ (((50 : TypeId) = 50 ∧ 3 = 3 ∧ List.length (FS.us z') = List.length (FS.us z) + 1) ∧ 1 = 1 ∧ 3 = 3 ∧ 1 = 1) ∧ True ∧ (∀ (i : Nat), i < List.length (FS.us z) + 1 → rowM (if i < List.length (FS.us z) then AV.xl false 1 (List.length
 (Used.ps (List.getD (PS.us z_1) i u0))) fun (i_1 j : Nat) => AV.v (Value.int .i64 (List.getD (Used.ps (List.getD (PS.us z_1) i u0)) i_1 Enc.dflt)) else AV.xl false 1 1 q78) (AV.xl false 1 (List.length (Used.ps (List.getD (FS.us z') i u0))) fun (i_1 j : Nat) => AV.v (Value.int .i64 (List.getD (Used.ps (List.getD (FS.us z') i u0)) i_1 Enc.dflt)))) ∧ ∀ (i j : Nat), i < List.length (FS.us z) + 1 → j < 3 → j ≠ 1 → avM (if i < List.length (FS.us z) then Enc.enc (List.getD (PS.us z_1) i u0) j else if j = 1 then AV.xl false 1 1 q78 else Sx.rowAt [listFn [AV.v (Value.int .i64 (BS.best z_2)), AV.xl true
 1 1 q78, slN (BS.at_ z_2)]] (i - List.length (FS.us z)) j) (Enc.enc (List.getD (FS.us z') i u0) j)) False) False) False) False) False) False))) (bsplit (ltB (64 : Int) (↑(List.length (FS.us z)) : Int)) (2 = List.length [AV.v (Value.slice (Non Addr) 0 0), AV.v (Value.int .i64 (4 : Int))] ∧ q1 ∧ IntKind.i64 = .i64 ∧ (4 : Int) = frstE ps bs k) (2 = List.length [AV.xl false 3 (List.length (FS.us z)) fun i j => Enc.enc (List.getD (FS.us z) (0 + i) u0) j, AV.v (Value.int .i64 (0 : Int))] ∧ (True ∧ avM (AV.xl false 3 (List.length (FS.us z)) fun i j => Enc.enc (List.getD (FS.us z) (0 + i) u0) j) (slX 3
 (frstL ps bs k))) ∧ IntKind.i64 = .i64 ∧ (0 : Int) = frstE ps bs k)))) False) False := by
  dsimp only
  have e0 : (Enc.dflt : Int) = 0 := rfl
  have e1 : (Enc.dflt : Cut) = c0 := rfl
  have e2 : (Enc.dflt : Bar) = b0 := rfl
  have e3 : (Enc.dflt : Used) = u0 := rfl
  intro hb
  simp only [↓vc_db, ↓vc_gdb, row_one]
  simp only [slX, slN, avM_refl, true_and, and_true, bsel_true, bsel_false, vc_own, bif_or, bif_and, vc_gdb, vc_db, vc_lt, vc_le, vc_ne, vc_eq, vc_tt, Int.toNat_natCast, Nat.zero_add, Nat.zero_le, Nat.sub_zero, agD_bar, agOk_bar, agD_bar', agOk_bar', agD_cut, agOk_cut, agD_cut', agOk_cut', agD_used, agOk_used, agD_used', agOk_used', int_i, Bool.or_true, cond_true, cond_false, okC, okC', deC, deC', okB, deB, okB', deB', okIn, okIn', deI, deI', okU, okU', deU, deU', okBl, deBl, okUl, deUl, deIo, cutsOf_sl, deUo, okBf, deBf, e0, e1, e2, e3, ltB_nat, pred_nat, okApp, deApp, deAppI, okOne, deOne, deOneI, usR_fi]
  simp only [vc_b, implies_true]
  have z0 : ∀ e, frstE ps bs k = e → e ≠ 0 → (frstL ps bs k).length = 0 := fun e h1 h2 => by
    unfold frstL
    rw [h1, beq_false_of_ne h2]
    rfl
  refine ⟨fun h1 => ?_, fun h1 => ?_⟩
  · have e : frstE ps bs k = startE ps bs k := by unfold frstE; rw [bne_iff_ne.2 h1]; rfl
    exact ⟨rfl, z0 _ e h1, e.symm⟩
  have hE : frstE ps bs k = match firstF (startL ps bs k) bs k (startL ps bs k).length with | some us => bif ltB 64 us.length then 4 else 0 | none => 22 := by
    unfold frstE; rw [h1]; rfl
  have hL : frstL ps bs k = bif frstE ps bs k == 0 then (firstF (startL ps bs k) bs k (startL ps bs k).length).getD [] else [] := rfl
  have hg := good_start h1
  have hs64 := startL_le (ps := ps) (bs := bs) (k := k)
  generalize startL ps bs k = A at *
  have key2 : ∀ a b : Int, ltB (bif a == 0 then (bif b == 0 then 0 else b) else a) 0 = ltB (bif a != 0 then a else b) 0 := fun a b => by
    by_cases h : a = 0
    · subst h
      by_cases h2 : b = 0
      · subst h2; rfl
      · show ltB (bif b == 0 then 0 else b) 0 = ltB b 0
        rw [beq_false_of_ne h2]; rfl
    · rw [beq_false_of_ne h, bne_iff_ne.2 h]; rfl
  have hJ : ∃ z : Unit, ∀ (i j : Nat), i < bs.length → j < 1 → avM (zcell (Value.int IntKind.i64 0) j) (AV.v (Value.int IntKind.i64 (usedN noU1 (i : Int) : Int))) :=
    ⟨(), fun i j _ hj => by obtain rfl : j = 0 := Nat.lt_one_iff.1 hj; exact avM_of_eq rfl⟩
  have a1 : 0 ≤ (bs.length : Int) := by omega
  have a2 : ((8 : Nat) : Int) * (bs.length : Int) ≤ 140737488355328 := by omega
  refine ⟨by and_intros <;> first | exact hJ | exact a1 | exact a2 | exact Int.le_refl _, fun _ _ => ⟨⟨⟨0, []⟩, ⟨⟨Nat.zero_le _, rfl⟩, rfl⟩, ⟨rfl, fun _ _ _ _ => rfl⟩, rfl, fun i hi => absurd hi (Nat.not_lt_zero _), fun i j hi => absurd hi (Nat.not_lt_zero _)⟩, fun z ⟨z1, z2⟩ => ⟨fun hlt => ?_, fun hge => ?_⟩⟩⟩
  · have hS := firstF_inS z2
    have hl := hS.len
    refine ⟨⟨⟨0, ⟨⟨Nat.zero_le _, rfl⟩, rfl⟩, trivial, trivial, trivial⟩, fun i hi => ⟨fun hlt2 => ?_, fun hge2 => ?_⟩⟩, fun p hp => ?_⟩
    · have hi2 : i < z.us.length := by omega
      have hm := getD_mem hi2
      have hb := hS.in_ _ hm
      have q1 := hS.ps _ hm
      refine ⟨hi2, ⟨by omega, hlt2⟩, ⟨by omega, by omega⟩, ⟨hb.1, by omega⟩, ?_⟩
      have go : withU A bs k (z.us.getD i u0) z.n = none → (inK .i64 ((i : Int) + 1) ∧ ∃ z' : Nat, ((AddI A bs k z.us z.n z' ∧ z.us.length - z' < z.us.length - i) ∧ (i : Int) + 1 = z') ∧ True ∧ True ∧ True) := fun hw =>
        ⟨⟨by omega, by omega⟩, i + 1, ⟨⟨⟨by omega, by unfold addI; rw [hi.no, hw]; rfl⟩, by omega⟩, rfl⟩, trivial, trivial, trivial⟩
      cases hsec : sectB (A.getD z.n c0) (bs.getD (z.us.getD i u0).bar.toNat b0) with
      | false =>
        simp only [Bool.not_false, vc_tt]
        exact ⟨hi2, trivial, go (by unfold withU barAt; rw [hsec]; rfl)⟩
      | true =>
        simp only [Bool.not_true, vc_ff]
        refine ⟨⟨⟨hb.1, by omega⟩, by omega, fun _ _ _ _ => rfl, by omega, ?_, ⟨fitsAt (barAt bs (z.us.getD i u0)) (lensL A ((z.us.getD i u0).ps ++ [(z.n : Int)])) k, fitsOk (barAt bs (z.us.getD i u0)) (lensL A ((z.us.getD i u0).ps ++ [(z.n : Int)])) k⟩, ⟨⟨rfl, rfl⟩, avM_refl _, rfl⟩, ⟨trivial, trivial, trivial⟩, trivial⟩, fun zz ⟨p1, p2⟩ => ?_⟩
        · rw [Bool.and_eq_true]
          refine ⟨List.all_eq_true.2 fun p hp => ?_, (blt_iff _ _).2 (by simp only [List.length_append, List.length_singleton]; omega)⟩
          rw [Bool.and_eq_true, leB_iff, ltB_iff]
          rcases List.mem_append.1 hp with hp | hp
          · have := hb.2.2 p hp; omega
          · rw [List.mem_singleton] at hp; omega
        cases hok : zz.is with
        | false =>
          simp only [vc_ff]
          exact ⟨hi2, trivial, go (by unfold withU; rw [← p1, hok, Bool.and_false]; rfl)⟩
        | true =>
          simp only [vc_tt]
          have hw : withU A bs k (z.us.getD i u0) z.n = some (putU z.us i z.n zz.at_) := by
            unfold withU barAt
            rw [hsec]
            unfold barAt at p1 p2
            rw [← p1, hok, p2]
            rfl
          have hI : addI A bs k z.us z.n z.us.length = some i := by
            refine addI_mono (m := i + 1) ?_ (by omega)
            unfold addI
            rw [hi.no, hw]
            rfl
          have c1 : ((z.us.getD i u0).ps.length + 1) * 8 ≤ 140737488355328 := by omega
          have c2 : 0 ≤ (i : Int) := by omega
          have hP : PutS A bs k z.us z.n ⟨z.us.set i (putU z.us i z.n zz.at_), true⟩ := ⟨by simp, fun _ => ⟨i, _, hI, hw, rfl⟩, fun h => by cases h⟩
          have r1 : ∀ i1 : Nat, i1 < z.us.length → rowM (if i1 = i then AV.xl false 1 ((z.us.getD i u0).ps.length + 1) fun i_2 j => if i_2 < (z.us.getD i u0).ps.length then AV.v (Value.int IntKind.i64 ((z.us.getD i u0).ps.getD i_2 0)) else AV.v (Value.int IntKind.i64 (z.n : Int))
              else if i1 = i ∧ 1 = 2 then AV.xl false 1 zz.at_.length fun i j => AV.v (Value.int IntKind.i64 (zz.at_.getD i 0)) else AV.xl false 1 (z.us.getD i1 u0).ps.length fun i_1 j => AV.v (Value.int IntKind.i64 ((z.us.getD i1 u0).ps.getD i_1 0)))
              (AV.xl false 1 ((z.us.set i (putU z.us i z.n zz.at_)).getD i1 u0).ps.length fun i_1 j => AV.v (Value.int IntKind.i64 (((z.us.set i (putU z.us i z.n zz.at_)).getD i1 u0).ps.getD i_1 0))) := fun i1 h1 => by
            rw [getD_setU _ h1]
            by_cases e : i1 = i
            · rw [if_pos e, if_pos e]
              exact ⟨rfl, by simp [putU], fun a b ha _ => avM_of_eq (appAV_at _ _ ha)⟩
            · rw [if_neg e, if_neg e, if_neg fun h => e h.1]
              exact ⟨rfl, rfl, fun a b _ _ => avM_refl _⟩
          have r2 : ∀ i1 j : Nat, i1 < z.us.length → j < 3 → j ≠ 1 → avM (if i1 = i ∧ j = 1 then AV.xl false 1 ((z.us.getD i u0).ps.length + 1) fun i_2 j => if i_2 < (z.us.getD i u0).ps.length then AV.v (Value.int IntKind.i64 ((z.us.getD i u0).ps.getD i_2 0)) else AV.v (Value.int IntKind.i64 (z.n : Int))
              else if i1 = i ∧ j = 2 then AV.xl false 1 zz.at_.length fun i j => AV.v (Value.int IntKind.i64 (zz.at_.getD i 0)) else Enc.enc (z.us.getD i1 u0) j) (Enc.enc ((z.us.set i (putU z.us i z.n zz.at_)).getD i1 u0) j) := fun i1 j h1 hj hn => by
            rw [getD_setU _ h1, if_neg fun h => hn h.2]
            by_cases e : i1 = i
            · rw [if_pos e]
              subst e
              match j, hj, hn with
              | 0, _, _ => rw [if_neg fun h => (by cases h.2)]; exact avM_refl _
              | 1, _, h => exact absurd rfl h
              | 2, _, _ => rw [if_pos ⟨rfl, rfl⟩]; exact avM_refl _
            · rw [if_neg e, if_neg fun h => e h.1]
              exact avM_refl _
          have K := fun (T : True) => (⟨⟨z.us.set i (putU z.us i z.n zz.at_), true⟩, hP, ⟨trivial, by simp, r1, r2⟩, rfl⟩ : ∃ z3 : PS, PutS A bs k z.us z.n z3 ∧ (True ∧ z3.us.length = z.us.length ∧ (∀ i1 : Nat, i1 < z.us.length → rowM (if i1 = i then AV.xl false 1 ((z.us.getD i u0).ps.length + 1) fun i_2 j => if i_2 < (z.us.getD i u0).ps.length then AV.v (Value.int IntKind.i64 ((z.us.getD i u0).ps.getD i_2 0)) else AV.v (Value.int IntKind.i64 (z.n : Int))
              else if i1 = i ∧ 1 = 2 then AV.xl false 1 zz.at_.length fun i j => AV.v (Value.int IntKind.i64 (zz.at_.getD i 0)) else AV.xl false 1 (z.us.getD i1 u0).ps.length fun i_1 j => AV.v (Value.int IntKind.i64 ((z.us.getD i1 u0).ps.getD i_1 0)))
              (AV.xl false 1 (z3.us.getD i1 u0).ps.length fun i_1 j => AV.v (Value.int IntKind.i64 ((z3.us.getD i1 u0).ps.getD i_1 0)))) ∧ ∀ i1 j : Nat, i1 < z.us.length → j < 3 → j ≠ 1 → avM (if i1 = i ∧ j = 1 then AV.xl false 1 ((z.us.getD i u0).ps.length + 1) fun i_2 j => if i_2 < (z.us.getD i u0).ps.length then AV.v (Value.int IntKind.i64 ((z.us.getD i u0).ps.getD i_2 0)) else AV.v (Value.int IntKind.i64 (z.n : Int))
              else if i1 = i ∧ j = 2 then AV.xl false 1 zz.at_.length fun i j => AV.v (Value.int IntKind.i64 (zz.at_.getD i 0)) else Enc.enc (z.us.getD i1 u0) j) (Enc.enc (z3.us.getD i1 u0) j)) ∧ true = z3.put)
          replace K := K trivial
          and_intros <;> first | exact K | exact c1 | exact c2 | exact hlt2 | exact hi2 | exact trivial | skip
    · have e : i = z.us.length := by have := hi.le; omega
      subst e
      exact ⟨⟨z.us, false⟩, ⟨rfl, fun h => (by cases h), fun _ => ⟨hi.no, rfl⟩⟩, ⟨trivial, rfl, fun _ _ => ⟨rfl, fun _ _ _ _ => rfl⟩, fun _ _ _ _ _ => avM_refl _⟩, rfl⟩
    · cases hput : p.put with
      | true =>
        simp only [vc_tt]
        obtain ⟨i, u, hI, hw, hu⟩ := hp.yes hput
        have hi := (addI_some hI).1
        have hstep : stepF A bs k z.us z.n = some p.us := by unfold stepF; rw [hI, hu]; simp only [hw, Option.map_some]
        exact ⟨⟨by omega, by omega⟩, ⟨z.n + 1, p.us⟩, ⟨⟨⟨by show z.n + 1 ≤ _; omega, by show firstF A bs k (z.n + 1) = _; unfold firstF; rw [z2]; exact hstep⟩, by show A.length - (z.n + 1) < _; omega⟩, rfl⟩,
          ⟨hp.len, fun j _ _ _ => by show (usedN z.us (j : Int) : Int) = usedN p.us (j : Int); rw [hu, usedN_put hi hw]⟩, rfl, fun _ _ => ⟨rfl, fun _ _ _ _ => rfl⟩, fun _ _ _ _ _ => avM_refl _⟩
      | false =>
        simp only [vc_ff]
        obtain ⟨hI, hu⟩ := hp.no hput
        rw [hu]
        refine ⟨⟨⟨⟨0, -1, []⟩, ⟨⟨Nat.zero_le _, ⟨rfl⟩⟩, rfl⟩, ⟨⟨trivial, trivial, trivial⟩, rfl⟩, rfl⟩, fun y ⟨y1, y2⟩ => ⟨fun hlt3 => ?_, fun hge3 => ?_⟩⟩, fun q hq => ⟨fun hneg => ?_, fun hpos => ?_⟩⟩
        · have hi : y.i < bs.length := by omega
          have hbm := barE_gaps (hg.1 _ (getD_memB hi))
          have hc := hbm.2.2.2.2.2.2.2.2
          have hun := usedN_len z.us (y.i : Int)
          have hin : (0 : Int) ≤ (y.i : Int) ∧ (y.i : Int) < (bs.length : Int) := ⟨by omega, hlt3⟩
          refine ⟨⟨hin, bs.getD y.i b0, rfl, ⟨trivial, trivial, trivial⟩, ⟨⟨⟨⟨rfl, rfl⟩, rfl⟩, rfl⟩, rfl⟩, avM_refl _⟩, fun b hb' => ?_⟩
          obtain rfl := hb'
          refine ⟨⟨by omega, hlt⟩, fun _ => hin, ?_⟩
          have hbar : barAt bs ⟨(y.i : Int), [], []⟩ = bs.getD y.i b0 := by unfold barAt; simp
          have go : ∀ (b : Int) (at_ : List Int), (b, at_) = bestJ A bs k z.us z.n (y.i + 1) → (inK .i64 ((y.i : Int) + 1) ∧ ∃ z2 : LS, (((z2.i ≤ bs.length ∧ BestS A bs k z.us z.n z2.i z2.best z2.at_) ∧ bs.length - z2.i < bs.length - y.i) ∧ (y.i : Int) + 1 = z2.i) ∧ ((True ∧ True ∧ True) ∧ b = z2.best) ∧ avM (AV.xl false 1 at_.length fun i j => AV.v (Value.int IntKind.i64 (at_.getD i 0))) (AV.xl false 1 z2.at_.length fun i j => AV.v (Value.int IntKind.i64 (z2.at_.getD i 0)))) := fun b at_ hw =>
            ⟨⟨by omega, by omega⟩, ⟨y.i + 1, b, at_⟩, ⟨⟨⟨by show y.i + 1 ≤ _; omega, ⟨hw⟩⟩, by show bs.length - (y.i + 1) < _; omega⟩, rfl⟩, ⟨⟨trivial, trivial, trivial⟩, rfl⟩, avM_refl _⟩
          have skip : freshU A bs k z.us z.n y.i = none → (y.best, y.at_) = bestJ A bs k z.us z.n (y.i + 1) := fun hw => by
            show _ = (match freshU A bs k z.us z.n y.i with | some u => _ | none => _)
            rw [hw]; exact y2.h
          cases hsec : sectB (A.getD z.n c0) (bs.getD y.i b0) with
          | false =>
            simp only [Bool.not_false, Bool.true_or, vc_tt]
            refine go _ _ (skip ?_)
            unfold freshU withU
            rw [hbar, hsec, Bool.false_and]
            cases freeB bs z.us y.i <;> rfl
          | true =>
            simp only [Bool.not_true, Bool.false_or, vc_le]
            refine ⟨fun hle => go _ _ (skip ?_), fun hlt4 => ⟨⟨?_, ⟨fitsAt (bs.getD y.i b0) (lensL A [(z.n : Int)]) k, fitsOk (bs.getD y.i b0) (lensL A [(z.n : Int)]) k⟩, ⟨⟨by rw [hbar]; rfl, by rw [hbar]; rfl⟩, avM_refl _, rfl⟩, trivial, trivial, trivial⟩, fun zz ⟨p1, p2⟩ => ?_⟩⟩
            · unfold freshU freeB
              rw [show ltB (usedN z.us (y.i : Int) : Int) (bs.getD y.i b0).n = false by rw [Bool.eq_false_iff]; intro h; rw [ltB_iff] at h; omega]
              rfl
            · rw [Bool.and_eq_true]
              refine ⟨List.all_eq_true.2 fun p hp => ?_, rfl⟩
              rw [List.mem_singleton] at hp
              rw [Bool.and_eq_true, leB_iff, ltB_iff]
              omega
            have hfree : freeB bs z.us y.i = true := by unfold freeB; rw [ltB_iff]; omega
            rw [hbar] at p1 p2
            simp only [List.nil_append] at p1 p2
            cases hok : zz.is with
            | false =>
              simp only [vc_ff]
              refine go _ _ (skip ?_)
              unfold freshU withU
              rw [hfree, hbar, hsec]
              simp only [List.nil_append]
              rw [← p1, hok]
              rfl
            | true =>
              simp only [vc_tt]
              have hw : freshU A bs k z.us z.n y.i = some ⟨(y.i : Int), [(z.n : Int)], zz.at_⟩ := by
                unfold freshU withU
                rw [hfree, hbar, hsec]
                simp only [List.nil_append]
                rw [← p1, hok, p2]
                rfl
              have hbj : bestJ A bs k z.us z.n (y.i + 1) = bif ltB y.best 0 || lessB (bs.getD y.i b0) (bs.getD y.best.toNat b0) then ((y.i : Int), zz.at_) else (y.best, y.at_) := by
                show (match freshU A bs k z.us z.n y.i with | some u => _ | none => _) = _
                rw [hw]
                show (bif ltB (bestJ A bs k z.us z.n y.i).1 0 || lessB (bs.getD y.i b0) (bs.getD (bestJ A bs k z.us z.n y.i).1.toNat b0) then ((y.i : Int), zz.at_) else bestJ A bs k z.us z.n y.i) = _
                rw [← y2.h]
              have hbest : (!ltB y.best 0) = true → 0 ≤ y.best ∧ y.best < (bs.length : Int) := fun h => by
                have h' : ltB (bestJ A bs k z.us z.n y.i).1 0 = false := by rw [← y2.h]; simpa using h
                obtain ⟨i, g1, g2, g3⟩ := bestJ_ok h'
                rw [← y2.h] at g2
                have g2 : y.best = (i : Int) := g2
                omega
              have hdiff : (!ltB y.best 0) = true → inK .i64 ((bs.getD y.i b0).l - (bs.getD y.best.toNat b0).l) ∧ inK .i64 ((bs.getD y.i b0).c - (bs.getD y.best.toNat b0).c) := fun h => by
                have h2 := hbest h
                have hbm2 := barE_gaps (hg.1 _ (getD_memB (B := bs) (i := y.best.toNat) (by omega)))
                have q1 := hbm.2.1
                have q2 := hbm.2.2.1
                have q3 := hbm2.2.1
                have q4 := hbm2.2.2.1
                have q5 := hbm2.2.2.2.2.2.2.2.2
                exact ⟨⟨by omega, by omega⟩, ⟨by omega, by omega⟩⟩
              refine ⟨fun _ => hin, hbest, fun h => (hdiff h).1, fun _ => hin, hbest, fun h => (hdiff h).2, Bool.or_true _, ?_⟩
              rw [show ltB (orF (fun i => (Sx.rowAt [fun x => AV.v (Value.int IntKind.i64 ((bs.getD y.i b0).l - (bs.getD y.best.toNat b0).l)), fun x => AV.v (Value.int IntKind.i64 ((bs.getD y.i b0).c - (bs.getD y.best.toNat b0).c))] i 0).int) 2 0) 0 = lessB (bs.getD y.i b0) (bs.getD y.best.toNat b0) from ?_]
              · cases hcc : ltB y.best 0 || lessB (bs.getD y.i b0) (bs.getD y.best.toNat b0) with
                | true =>
                  simp only [vc_tt]
                  exact go _ _ (by rw [hbj, hcc]; rfl)
                | false =>
                  simp only [vc_ff]
                  exact go _ _ (by rw [hbj, hcc]; rfl)
              · exact key2 _ _
        · have e : y.i = bs.length := by omega
          exact ⟨⟨y.best, y.at_⟩, ⟨by rw [← e]; exact y2.h⟩, ⟨⟨trivial, trivial, trivial⟩, rfl⟩, avM_refl _⟩
        · have hq1 : (bestJ A bs k z.us z.n bs.length).1 = q.best := by rw [← hq.h]
          have hn : firstF A bs k (z.n + 1) = none := by
            unfold firstF; rw [z2]; show stepF A bs k z.us z.n = none
            unfold stepF; rw [hI, hq1, (ltB_iff _ _).2 hneg]; rfl
          have hnone : firstF A bs k A.length = none := first_none hn (by omega)
          rw [hnone] at hE
          exact ⟨rfl, z0 _ hE (by decide), hE.symm⟩
        · have hq1 : (bestJ A bs k z.us z.n bs.length).1 = q.best := by rw [← hq.h]
          have hq2 : (bestJ A bs k z.us z.n bs.length).2 = q.at_ := by rw [← hq.h]
          have hneg : ltB q.best 0 = false := by rw [Bool.eq_false_iff]; intro h; rw [ltB_iff] at h; omega
          obtain ⟨i, g1, g2, g3⟩ := bestJ_ok (by rw [hq1]; exact hneg)
          rw [hq1] at g2
          have hun := usedN_len z.us (i : Int)
          have hin : 0 ≤ q.best ∧ q.best < (bs.length : Int) := by omega
          have hbt : q.best.toNat = i := by omega
          rw [hbt]
          have hN : ∀ j : Nat, (usedN (z.us ++ [⟨q.best, [(z.n : Int)], q.at_⟩]) (j : Int) : Int) = usedN z.us (j : Int) + if j = i then 1 else 0 := fun j => by
            rw [usedN_app]
            by_cases e : j = i
            · rw [if_pos (by rw [e, g2]), if_pos e]; rfl
            · rw [if_neg (show ¬ (q.best = (j : Int)) by omega), if_neg e]; rfl
          have hstep : firstF A bs k (z.n + 1) = some (z.us ++ [⟨q.best, [(z.n : Int)], q.at_⟩]) := by
            unfold firstF; rw [z2]; show stepF A bs k z.us z.n = _
            unfold stepF; rw [hI, hq1, hq2, hneg]; rfl
          refine ⟨Nat.le_refl _, by omega, hin, ⟨by omega, by omega⟩, hin, ⟨by omega, by omega⟩, ⟨z.n + 1, z.us ++ [⟨q.best, [(z.n : Int)], q.at_⟩]⟩, ⟨⟨⟨by show z.n + 1 ≤ _; omega, hstep⟩, by show A.length - (z.n + 1) < _; omega⟩, rfl⟩, ⟨by simp, fun j j2 hj hj2 => ?_⟩, by simp, fun j hj => ?_, fun j j2 hj hj2 hn => ?_⟩
          · show avM _ (AV.v (Value.int IntKind.i64 (usedN (z.us ++ [Used.mk q.best [(z.n : Int)] q.at_]) (j : Int) : Int)))
            rw [hN]
            by_cases e : j = i
            · rw [if_pos ⟨e, hj2⟩, if_pos e, e]; exact avM_refl _
            · rw [if_neg fun h => e h.1, if_neg e, Int.add_zero]; exact avM_refl _
          · show rowM _ (AV.xl false 1 ((z.us ++ [Used.mk q.best [(z.n : Int)] q.at_]).getD j u0).ps.length fun i_1 j2 => AV.v (Value.int IntKind.i64 (((z.us ++ [Used.mk q.best [(z.n : Int)] q.at_]).getD j u0).ps.getD i_1 0)))
            split
            · rename_i h
              rw [getD_app_left _ _ h]
              exact ⟨rfl, rfl, fun a b _ _ => avM_refl _⟩
            · rename_i h
              rw [getD_app_last _ _ h hj]
              exact ⟨rfl, rfl, fun a b ha _ => by obtain rfl : a = 0 := Nat.lt_one_iff.1 ha; exact avM_refl _⟩
          · show avM _ (Enc.enc ((z.us ++ [Used.mk q.best [(z.n : Int)] q.at_]).getD j u0) j2)
            split
            · rename_i h
              rw [getD_app_left _ _ h]; exact avM_refl _
            · rename_i h
              rw [getD_app_last _ _ h hj]
              match j2, hj2, hn with
              | 0, _, _ => exact avM_refl _
              | 1, _, h => exact absurd rfl h
              | 2, _, _ => exact avM_refl _
  · have e : z.n = A.length := by omega
    rw [e] at z2
    have hS := firstF_inS z2
    have hl := hS.len
    have e4 : ltB 64 (z.us.length : Int) = false := by rw [Bool.eq_false_iff, Ne, ltB_iff]; omega
    rw [z2] at hE hL
    have hE' : frstE ps bs k = 0 := by rw [hE]; show (bif ltB 64 (z.us.length : Int) then 4 else 0) = 0; rw [e4]; rfl
    have hL' : frstL ps bs k = z.us := by rw [hL, hE']; rfl
    rw [hL']
    exact ⟨fun h => by omega, fun _ => ⟨rfl, avM_refl _, hE'.symm⟩⟩
theorem Tfs_sound : TbSound Tryz.prog Tfs := by
  have h1 : TbSound Tryz.prog (((((T0.plus 32 start_t).plus 61 lay_t).plus 80 sect_t).plus 42 or_t).plusF 70 (clone_t 3 1 8)) := TbSound.plusF (TbSound.plus (TbSound.plus (TbSound.plus (TbSound.plus tb0_sound sing_T) lay_T) sectA_T) or_T) cloneI_T
  have h2 := h1.plusO (f := 40) (t := bodyOf Tryz.prog T0 40 .auto) (fun t e => bodyOf_sound mixed tb0_sound e)
  have h3 := h2.plusO (f := 41) (t := bodyOf Tryz.prog T0 41 .auto) (fun t e => bodyOf_sound mixed tb0_sound e)
  exact h3.plusO (f := 43) (t := bodyOf Tryz.prog T0 43 .auto) (fun t e => bodyOf_sound mixed tb0_sound e)
def first_t : List AV → Option (List Cond × AV)
  | [x, y, .v (.int .i64 k)] => some ([.b (slOk Cut x), .b (slOk Bar y)], .tup 2 (listFn [slE (frstL (slD x) (slD y) k), .i (frstE (slD x) (slD y) k)]))
  | _ => none
theorem first_T : PureT Tryz.prog [] 17 first_t := by
  intro xs ps r h hp
  unfold first_t at h
  split at h
  · rename_i x y k
    cases h
    exact weaken (ys := [_, _, _]) ⟨slE_sound (hp _ List.mem_cons_self), slE_sound (hp _ (List.mem_cons_of_mem _ List.mem_cons_self)), avM_refl _, trivial⟩
      (pure_of_vc mixed Tfs_sound (Eq.mp (by kernel_rfl) (frst_vc (slD x) (slD y) k) : vcFn Tryz.prog Tfs 17 (first_an (startL (slD x) (slD y) k) (slD y) k) [slE (slD x), slE (slD y), .i k] (.tup 2 (listFn [slE (frstL (slD x) (slD y) k), .i (frstE (slD x) (slD y) k)]))))
  · cases h
end Go.Tz
