/- nest.search.from. -/
import Derived.Test.YtojonobehnbeiaaGreatDoorTzEa
import Derived.Test.YtojonobehnbeiaaGreatDoorTzEy
set_option linter.unusedSimpArgs false
namespace Go.Tz
open Go Go.Sx Go.Proofs
set_option maxRecDepth 100000
set_option maxHeartbeats 4000000
def fnI (f p q : Nat) : AV := .fn (.func f) 0 (fun _ => .junk) 2 (listFn [.np p 0, .np q 0])
def frB (n : Nat) : List (Nat × OB) := [(3, .box 60 1 fun _ => .np 0 0), (4, .box 3 1 fun _ => .i (n : Int)), (5, .box 65 1 fun _ => .fn (.func 33) 1 (fun _ => .np 0 0) 0 fun _ => .junk)]
def itB (n p q : Nat) : List (Nat × OB) := [(p, .box 73 1 fun _ => .np 0 0), (q, .box 3 1 fun _ => .i (n : Int))]
def rdB (l : Nat) : List (Nat × OB) := [(l, .lrec .ready none)]
def adB (A : List Cut) (B : List Bar) (k : Int) (n : Nat) (us : List Used) (z : LoS) : List (Nat × OB) :=
  [(0, srB A B k us z.f 9 2 (slE z.f.best)), (1, .dead), (2, tkB B us), (9, uArr z.st z.st.length)] ++ frB n ++ itB n 6 7 ++ rdB 8
def fsB (A : List Cut) (B : List Bar) (k : Int) (n : Nat) (us : List Used) (z : LoS) : List (Nat × OB) :=
  [(0, srB A B k us z.f 13 2 (slE z.f.best)), (1, .dead), (2, tkB B us), (9, .dead), (13, uArr z.st z.st.length)] ++ frB n ++ [(6, .dead), (7, .dead), (8, .dead)] ++ itB n 10 11 ++ rdB 12
def addV (us : List Used) (i : Nat) : List (Nat × AV) := [(0, .yl 8), (1, .np 6 0), (2, .np 7 0), (12, .i us.length), (13, .i i)]
def freV (B : List Bar) (i : Nat) : List (Nat × AV) := [(0, .yl 12), (1, .np 10 0), (2, .np 11 0), (11, slE B), (12, .i B.length), (13, .i i)]
def added_an (A : List Cut) (B : List Bar) (k : Int) (fuel n : Nat) (us : List Used) (f : Fd) : Ann :=
  .two .auto (.one (.loop LoS (fun _ z => addV us z.i) (fun _ z => adB A B k n us z) 1 (fun _ z => z.i ≤ us.length ∧ z.f = addF A B k fuel n us f z.i ∧ headU us z.st) (fun _ z => us.length - z.i)
    (.two .auto (.two .auto (.two (.one (.two .auto
      (.join Used (fun σ _ => [(0, .yl 8), (1, .np 6 0), (2, .np 7 0), (12, .i us.length), (13, σ.tm 13), (4, σ.tm 4), (5, .np 10 0)]) (fun σ u => [(10, .box 50 3 (Enc.enc u))]) 1 (fun σ u => u = us.getD (AV.int (σ.tm 4)).toNat u0) .auto
      (.two .auto
      (.join AtS (fun σ z => [(0, .yl 8), (1, .np 6 0), (2, .np 7 0), (12, .i us.length), (13, σ.tm 13), (4, σ.tm 4), (6, slE z.at_), (7, .b z.is)]) (fun _ _ => []) 0 (fun σ z => plusU A B k (us.getD (AV.int (σ.tm 4)).toNat u0) n z) .auto (.split 7 .auto .auto)))))) .auto)))))
def fresh_an (A : List Cut) (B : List Bar) (k : Int) (fuel n : Nat) (us : List Used) (f : Fd) : Ann :=
  .two .auto (.one (.loop LoS (fun _ z => freV B z.i) (fun _ z => fsB A B k n us z) 1 (fun _ z => z.i ≤ B.length ∧ z.f = freF A B k fuel n us (addF A B k fuel n us f us.length) z.i ∧ headU us z.st) (fun _ z => B.length - z.i)
    (.two .auto (.two .auto (.two (.one 
      (.join Bar (fun σ _ => [(0, .yl 12), (1, .np 10 0), (2, .np 11 0), (11, slE B), (12, .i B.length), (13, σ.tm 13), (4, σ.tm 13), (5, .np 14 0)]) (fun σ b => [(14, .box 26 6 (Enc.enc b))]) 1 (fun σ b => b = B.getD (AV.int (σ.tm 13)).toNat b0) .auto
      (.two .auto
      (.join AtS (fun σ z => [(0, .yl 12), (1, .np 10 0), (2, .np 11 0), (11, slE B), (12, .i B.length), (13, σ.tm 13), (4, σ.tm 4), (6, slE z.at_), (7, .b z.is)]) (fun _ _ => []) 0 (fun σ z => plusU A B k ⟨AV.int (σ.tm 4), [], []⟩ n z) .auto (.split 7 .auto .auto))))) .auto)))))
def addB_an (n : Nat) (us : List Used) : Ann :=
  .one (.join Used (fun σ _ => [(2, .np 3 0), (3, .np 4 0), (4, .np 5 0), (5, σ.tm 5), (6, σ.tm 6), (7, .np 11 0)]) (fun σ u => [(11, .box 50 3 (Enc.enc u))]) 1 (fun σ u => u = us.getD (AV.int (σ.tm 5)).toNat u0) .auto
    (.join (List Used) (fun σ _ => [(2, .np 3 0), (3, .np 4 0), (4, .np 5 0), (5, σ.tm 5), (7, .np 11 0)]) (fun σ z => [(9, uArr z z.length)]) 0
    (fun σ z => headU (us.set (AV.int (σ.tm 5)).toNat (putU us (AV.int (σ.tm 5)).toNat n (intsOf (σ.tm 6)))) z) .auto .auto))
def newB_an (B : List Bar) (n : Nat) (us : List Used) : Ann :=
  .one (.join Unit (fun σ _ => [(2, .np 3 0), (3, .np 4 0), (4, .np 5 0), (8, σ.tm 8)])
    (fun σ _ => [(0, setC σ 3 (.ns 15 0 (us.length + 1))), (13, .dead), (2, tkB B (us ++ [⟨AV.int (σ.tm 8), [(n : Int)], intsOf (σ.tm 9)⟩])), (15, uArr (us ++ [⟨AV.int (σ.tm 8), [(n : Int)], intsOf (σ.tm 9)⟩]) (us.length + 1))]) 1
    (fun _ _ => True) .auto .auto)
def from_an (A : List Cut) (B : List Bar) (k : Int) (fuel n : Nat) (us st : List Used) (f : Fd) : Ann :=
  .two .auto (.two .auto (.two .auto (.two .auto
    (.join SrS (fun _ _ => [(2, .np 3 0), (3, .np 4 0), (4, .np 5 0)]) (fun _ z => [(0, srB A B k us z.f 9 2 (slE z.f.best)), (1, .dead), (2, tkB B us), (9, uArr z.st z.st.length)] ++ frB n ++ [(6, .dead), (7, .dead), (8, .dead)]) 4
      (fun _ z => z.f = addF A B k fuel n us f us.length ∧ headU us z.st)
      (.join Unit (fun _ _ => [(2, .np 3 0), (3, .np 4 0), (4, .np 5 0), (41, fnI 79 6 7)]) (fun _ _ => [(0, srB A B k us f 1 2 (slE f.best)), (1, uArr st st.length), (2, tkB B us)] ++ frB n ++ itB n 6 7) 2 (fun _ _ => True) .auto
        (.one (.range (added_an A B k fuel n us f) .auto (addB_an n us))))
      (.two .auto (.one (.range (fresh_an A B k fuel n us f) .auto (newB_an B n us))))))))
theorem from_vc (A : List Cut) (B : List Bar) (k : Int) (fuel n : Nat) (us st : List Used) (f : Fd) (hB : GoodB B) (hBl : B.length ≤ 64) (hA : A.length ≤ 8) (hu : headU us st) (hf : Fit A B (fuel + 1) n us) :
 let q1 := (!bsel true (Fd.found f) || bsel true (Fd.found f)); let q2 := (bif Fd.found f then leB (Fd.least f) (costU B us) else false); let q5 := ((avM (slX 4 A) (slX 4 A) ∧ avM (slX 6 B) (slX 6 B)) ∧ IntKind.i64 = .i64 ∧ k = k); let q4 := (((q5 ∧ 3 = 3 ∧ 0 = 0 ∧ us.length = us.length) ∧ 2 = 2 ∧ 0 = 0 ∧ List.length B = List.length B) ∧ IntKind.i64 = .i64 ∧ costU B us = costU B us); let q3 := (True ∧ ∃ (z : SrS), ((SrS.f z = fromF A B k (fuel + 1) n us f ∧ headU us (SrS.st z)) ∧ True) ∧ (((64 = 64 ∧ 9 = 9 ∧ ((q4 ∧ Fd.found f = Fd.found (SrS.f z)) ∧ IntKind.i64 = .i64 ∧ Fd.least f = Fd.least
 (SrS.f z)) ∧ avM (slX 3 (Fd.best f)) (slX 3 (Fd.best (SrS.f z)))) ∧ True) ∧ 3 = 3 ∧ 1 = 1 ∧ List.length B = List.length B ∧ ∀ (i j : Nat), i < List.length B → j < 1 → IntKind.i64 = .i64 ∧ (↑(usedN us (i : Int)) : Int) = (↑(usedN us (i : Int)) : Int)) ∧ 50 = 50 ∧ 3 = 3 ∧ List.length (SrS.st z) = st.length ∧ ∀ (i j : Nat), i < st.length → j < 3 → avM (Enc.enc (List.getD st i u0) j) (Enc.enc (List.getD (SrS.st z) i u0) j)); let q6 := (IntKind.i64 = .i64 ∧ (us.length : Int) = (us.length : Int)); let q7 := (((q5 ∧ 1 = 1 ∧ 0 = 0 ∧ us.length = us.length) ∧ 2 = 2 ∧ 0 = 0 ∧ List.length B = List.length
 B) ∧ IntKind.i64 = .i64 ∧ costU B us = costU B us); let q13 := (AV.fn (Fn.func (33 : FuncId)) 1 (fun (x : Nat) => AV.np 0 0) 0 fun (x : Nat) => AV.junk); let q14 := (((q5 ∧ 9 = 9 ∧ 0 = 0 ∧ us.length = us.length) ∧ 2 = 2 ∧ 0 = 0 ∧ List.length B = List.length B) ∧ IntKind.i64 = .i64 ∧ costU B us = costU B us); let q21 := (DB.db ((0 : Int) ≤ (n : Int) ∧ (n : Int) < (↑(List.length A) : Int))); let q24 := (AV.agg 4 fun (i : Nat) => Enc.enc (List.getD A (Int.toNat (n : Int)) Enc.dflt) (0 + i)); let q23 := (agOk Cut q24); let q27 := (agD q24); let q45 := (AV.xl false 4 (List.length A) fun i j =>
 Enc.enc (List.getD A i Enc.dflt) j); let q46 := (AV.xl false 6 (List.length B) fun i j => Enc.enc (List.getD B i Enc.dflt) j); let q44 := ((avM q45 q45 ∧ avM q46 q46) ∧ IntKind.i64 = .i64 ∧ k = k); let q47 := (AV.fn (Fn.func (33 : FuncId)) 1 (fun (i : Nat) => AV.np 0 0) 0 fun (i : Nat) => AV.junk); let q51 := (DB.db (inK .i64 ((n : Int) + (1 : Int)))); let q52 := (IntKind.i64 = .i64 ∧ (↑(List.length B) : Int) = (↑(List.length B) : Int)); let q53 := (((q5 ∧ 13 = 13 ∧ 0 = 0 ∧ us.length = us.length) ∧ 2 = 2 ∧ 0 = 0 ∧ List.length B = List.length B) ∧ IntKind.i64 = .i64 ∧ costU B us = costU B us);
 let q68 := (((q44 ∧ 13 = 13 ∧ 0 = 0 ∧ us.length = us.length) ∧ 2 = 2 ∧ 0 = 0 ∧ List.length B = List.length B) ∧ IntKind.i64 = .i64 ∧ costU B us = costU B us); let q72 := (Sx.rowAt [fun (x : Nat) => AV.v (Value.int .i64 (n : Int))]); let q71 := (AV.xl true 1 1 q72); let q70 := (slD q71); let q74 := (lensL (slD q45) q70); bsplit q1 (bsplit q1 (bsplit q1 (bsplit q1 (bsplit q1 (bsplit q1 (bsplit q1 (bsplit q1 (bsplit (!Fd.found f || bsel true (Fd.found f)) (bsplit q2 q3 (bsplit ((n : Int) == (↑(List.length A) : Int)) (bsplit q1 (bsplit q1 (bsplit q1 (bsplit q1 (bsplit q1 (bsplit q1 (bsplit q1
 (bsplit q1 (bsplit (!Fd.found f || bsel true (Fd.found f)) (bsplit q2 q3 ((∃ (z : Nat), (z ≤ us.length ∧ (0 = 0 ∧ 0 = 0) ∧ (1 = 1 ∧ 0 = 0 ∧ us.length = us.length) ∧ q6 ∧ IntKind.i64 = .i64 ∧ (0 : Int) = (z : Int)) ∧ (((((64 = 64 ∧ 9 = 9 ∧ ((q7 ∧ true = Fd.found (Fd.mk true (costU B us) us)) ∧ IntKind.i64 = .i64 ∧ costU B us = Fd.least (Fd.mk true (costU B us) us)) ∧ some (Non Nat) = some (Non Nat) ∧ 0 = 0 ∧ z = 0) ∧ 50 = 50 ∧ 3 = 3 ∧ st.length = st.length ∧ ∀ (i j : Nat), i < st.length → j < 3 → avM (Enc.enc (List.getD st i u0) j) (Enc.enc (List.getD st i u0) j)) ∧ 3 = 3 ∧ 1 = 1 ∧ List.length B
 = List.length B ∧ ∀ (i j : Nat), i < List.length B → j < 1 → IntKind.i64 = .i64 ∧ (↑(usedN us (i : Int)) : Int) = (↑(usedN us (i : Int)) : Int)) ∧ 60 = 60 ∧ 1 = 1 ∧ 0 = 0 ∧ 0 = 0) ∧ 3 = 3 ∧ 1 = 1 ∧ IntKind.i64 = .i64 ∧ (n : Int) = (n : Int)) ∧ z = 0) ∧ ∀ (z : Nat), let q9 := (List.getD st (0 + Int.toNat (z : Int)) u0); let q8 := (Used.ps q9); let q10 := (Used.at_ q9); let q11 := (DB.db ((z + 1) * 56 ≤ 140737488355328)); let q12 := (bsplit (DB.db (inK .i64 ((z : Int) + (1 : Int)))) (∃ (z' : Nat), ((z' ≤ us.length ∧ us.length - z' < us.length - z) ∧ (0 = 0 ∧ 0 = 0) ∧ (1 = 1 ∧ 0 = 0 ∧ us.length =
 us.length) ∧ q6 ∧ IntKind.i64 = .i64 ∧ (z : Int) + (1 : Int) = (z' : Int)) ∧ (((((64 = 64 ∧ 9 = 9 ∧ ((q7 ∧ Fd.found (Fd.mk true (costU B us) us) = Fd.found (Fd.mk true (costU B us) us)) ∧ IntKind.i64 = .i64 ∧ Fd.least (Fd.mk true (costU B us) us) = Fd.least (Fd.mk true (costU B us) us)) ∧ 5 = 5 ∧ 0 = 0 ∧ z' = z + 1) ∧ 50 = 50 ∧ 3 = 3 ∧ st.length = st.length ∧ ∀ (i j : Nat), i < st.length → j < 3 → avM (Enc.enc (List.getD st i u0) j) (Enc.enc (List.getD st i u0) j)) ∧ 3 = 3 ∧ 1 = 1 ∧ List.length B = List.length B ∧ ∀ (i j : Nat), i < List.length B → j < 1 → IntKind.i64 = .i64 ∧ (↑(usedN us (i :
 Int)) : Int) = (↑(usedN us (i : Int)) : Int)) ∧ 60 = 60 ∧ 1 = 1 ∧ 0 = 0 ∧ 0 = 0) ∧ 3 = 3 ∧ 1 = 1 ∧ IntKind.i64 = .i64 ∧ (n : Int) = (n : Int)) ∧ (50 : TypeId) = 50 ∧ 3 = 3 ∧ z' = z + 1 ∧ ∀ (i j : Nat), i < z + 1 → j < 3 → avM (if i < z then Enc.enc (List.getD us i u0) j else Sx.rowAt [listFn [AV.v (Value.int .i64 (Used.bar q9)), slN q8, slN q10]] (i - z) j) (Enc.enc (List.getD us i u0) j)) False); z ≤ us.length → bsplit (ltB (z : Int) (us.length : Int)) (bsplit (DB.db ((0 : Int) ≤ (z : Int) ∧ (z : Int) < (us.length : Int))) (bsplit (DB.db (List.length q8 * 8 ≤ 140737488355328)) (bsplit (DB.db
 (List.length q10 * 8 ≤ 140737488355328)) (bsplit q11 q12 False ∧ bsplit q11 q12 False) False) False) False) (True ∧ ∃ (z_1 : SrS), ((SrS.f z_1 = fromF A B k (fuel + 1) n us f ∧ headU us (SrS.st z_1)) ∧ True) ∧ (((64 = 64 ∧ 9 = 9 ∧ ((q4 ∧ Fd.found (Fd.mk true (costU B us) us) = Fd.found (SrS.f z_1)) ∧ IntKind.i64 = .i64 ∧ Fd.least (Fd.mk true (costU B us) us) = Fd.least (SrS.f z_1)) ∧ avM (AV.xl false 3 z fun i j => Enc.enc (List.getD us (0 + i) u0) j) (slX 3 (Fd.best (SrS.f z_1)))) ∧ True) ∧ 3 = 3 ∧ 1 = 1 ∧ List.length B = List.length B ∧ ∀ (i j : Nat), i < List.length B → j < 1 → IntKind.i64 =
 .i64 ∧ (↑(usedN us (i : Int)) : Int) = (↑(usedN us (i : Int)) : Int)) ∧ 50 = 50 ∧ 3 = 3 ∧ List.length (SrS.st z_1) = st.length ∧ ∀ (i j : Nat), i < st.length → j < 3 → avM (Enc.enc (List.getD st i u0) j) (Enc.enc (List.getD (SrS.st z_1) i u0) j)))) False) False) False) False) False) False) False) False) False) (((∃ (z : Unit), (True ∧ (3 = 3 ∧ 0 = 0) ∧ (4 = 4 ∧ 0 = 0) ∧ (5 = 5 ∧ 0 = 0) ∧ Fn.func 79 = Fn.func 79 ∧ 0 = 0 ∧ 2 = 2 ∧ True ∧ (6 = 6 ∧ 0 = 0) ∧ 7 = 7 ∧ 0 = 0) ∧ (((((((64 = 64 ∧ 9 = 9 ∧ ((q7 ∧ Fd.found f = Fd.found f) ∧ IntKind.i64 = .i64 ∧ Fd.least f = Fd.least f) ∧ avM (slX 3 (Fd.best
 f)) (slX 3 (Fd.best f))) ∧ 50 = 50 ∧ 3 = 3 ∧ st.length = st.length ∧ ∀ (i j : Nat), i < st.length → j < 3 → avM (Enc.enc (List.getD st i u0) j) (Enc.enc (List.getD st i u0) j)) ∧ 3 = 3 ∧ 1 = 1 ∧ List.length B = List.length B ∧ ∀ (i j : Nat), i < List.length B → j < 1 → IntKind.i64 = .i64 ∧ (↑(usedN us (i : Int)) : Int) = (↑(usedN us (i : Int)) : Int)) ∧ (60 : TypeId) = 60 ∧ 1 = 1 ∧ 0 = 0 ∧ 0 = 0) ∧ (3 : TypeId) = 3 ∧ 1 = 1 ∧ IntKind.i64 = .i64 ∧ (n : Int) = (n : Int)) ∧ (65 : TypeId) = 65 ∧ 1 = 1 ∧ avM (AV.fn (Fn.func 33) 1 (fun (i : Nat) => Option.getD [AV.np 0 0][i]? AV.junk) 0 fun (i : Nat)
 => AV.junk) q13) ∧ (73 : TypeId) = 73 ∧ 1 = 1 ∧ 0 = 0 ∧ 0 = 0) ∧ (3 : TypeId) = 3 ∧ 1 = 1 ∧ IntKind.i64 = .i64 ∧ (n : Int) = (n : Int)) ∧ ∀ (z : Unit), True → (∃ (z : LoS), ((LoS.i z ≤ us.length ∧ LoS.f z = addF A B k fuel n us f (LoS.i z) ∧ headU us (LoS.st z)) ∧ 8 = 8 ∧ (6 = 6 ∧ 0 = 0) ∧ (7 = 7 ∧ 0 = 0) ∧ q6 ∧ IntKind.i64 = .i64 ∧ (0 : Int) = (↑(LoS.i z) : Int)) ∧ (((((((((64 = 64 ∧ 9 = 9 ∧ ((q14 ∧ Fd.found f = Fd.found (LoS.f z)) ∧ IntKind.i64 = .i64 ∧ Fd.least f = Fd.least (LoS.f z)) ∧ avM (slX 3 (Fd.best f)) (slX 3 (Fd.best (LoS.f z)))) ∧ True) ∧ 3 = 3 ∧ 1 = 1 ∧ List.length B = List.length
 B ∧ ∀ (i j : Nat), i < List.length B → j < 1 → IntKind.i64 = .i64 ∧ (↑(usedN us (i : Int)) : Int) = (↑(usedN us (i : Int)) : Int)) ∧ 60 = 60 ∧ 1 = 1 ∧ 0 = 0 ∧ 0 = 0) ∧ 3 = 3 ∧ 1 = 1 ∧ IntKind.i64 = .i64 ∧ (n : Int) = (n : Int)) ∧ 65 = 65 ∧ 1 = 1 ∧ avM q13 q13) ∧ 73 = 73 ∧ 1 = 1 ∧ 0 = 0 ∧ 0 = 0) ∧ 3 = 3 ∧ 1 = 1 ∧ IntKind.i64 = .i64 ∧ (n : Int) = (n : Int)) ∧ LoopState.ready = LoopState.ready ∧ Non Code = Non Code) ∧ 50 = 50 ∧ 3 = 3 ∧ List.length (LoS.st z) = st.length ∧ ∀ (i j : Nat), i < st.length → j < 3 → avM (Enc.enc (List.getD st i u0) j) (Enc.enc (List.getD (LoS.st z) i u0) j)) ∧ ∀ (z :
 LoS), let q15 := (DB.db ((0 : Int) ≤ (↑(LoS.i z) : Int) ∧ (↑(LoS.i z) : Int) < (us.length : Int))); let q16 := (Int.toNat (AV.int (AV.v (Value.int .i64 (↑(LoS.i z) : Int))))); let q17 := (IntKind.i64 = .i64 ∧ (↑(LoS.i z) : Int) = (↑(LoS.i z) : Int)); let q18 := (List.getD (LoS.st z) (0 + Int.toNat (↑(LoS.i z) : Int)) u0); let q19 := (slN (Used.ps q18)); let q20 := (slN (Used.at_ q18)); let q29 := (DB.db (inK .i64 ((↑(LoS.i z) : Int) + (1 : Int)))); let q28 := (bsplit q29 (∃ (z' : LoS), (((LoS.i z' ≤ us.length ∧ LoS.f z' = addF A B k fuel n us f (LoS.i z') ∧ headU us (LoS.st z')) ∧ us.length -
 LoS.i z' < us.length - LoS.i z) ∧ 8 = 8 ∧ (6 = 6 ∧ 0 = 0) ∧ (7 = 7 ∧ 0 = 0) ∧ q6 ∧ IntKind.i64 = .i64 ∧ (↑(LoS.i z) : Int) + (1 : Int) = (↑(LoS.i z') : Int)) ∧ (((((((((64 = 64 ∧ 9 = 9 ∧ ((q14 ∧ Fd.found (LoS.f z) = Fd.found (LoS.f z')) ∧ IntKind.i64 = .i64 ∧ Fd.least (LoS.f z) = Fd.least (LoS.f z')) ∧ avM (slX 3 (Fd.best (LoS.f z))) (slX 3 (Fd.best (LoS.f z')))) ∧ True) ∧ 3 = 3 ∧ 1 = 1 ∧ List.length B = List.length B ∧ ∀ (i j : Nat), i < List.length B → j < 1 → IntKind.i64 = .i64 ∧ (↑(usedN us (i : Int)) : Int) = (↑(usedN us (i : Int)) : Int)) ∧ 60 = 60 ∧ 1 = 1 ∧ 0 = 0 ∧ 0 = 0) ∧ 3 = 3 ∧ 1 = 1
 ∧ IntKind.i64 = .i64 ∧ (n : Int) = (n : Int)) ∧ 65 = 65 ∧ 1 = 1 ∧ avM q13 q13) ∧ 73 = 73 ∧ 1 = 1 ∧ 0 = 0 ∧ 0 = 0) ∧ 3 = 3 ∧ 1 = 1 ∧ IntKind.i64 = .i64 ∧ (n : Int) = (n : Int)) ∧ LoopState.ready = LoopState.ready ∧ Non Code = Non Code) ∧ 50 = 50 ∧ 3 = 3 ∧ List.length (LoS.st z') = List.length (LoS.st z) ∧ ∀ (i j : Nat), i < List.length (LoS.st z) → j < 3 → avM (Enc.enc (List.getD (LoS.st z) i u0) j) (Enc.enc (List.getD (LoS.st z') i u0) j)) False); let q39 := (List.getD us q16 u0); let q43 := (((((q44 ∧ 9 = 9 ∧ 0 = 0 ∧ us.length = us.length) ∧ 2 = 2 ∧ 0 = 0 ∧ List.length B = List.length B) ∧
 IntKind.i64 = .i64 ∧ costU B us = costU B us) ∧ Fd.found (LoS.f z) = Fd.found (LoS.f z)) ∧ IntKind.i64 = .i64 ∧ Fd.least (LoS.f z) = Fd.least (LoS.f z)); let q42 := (((((64 = 64 ∧ 9 = 9 ∧ q43 ∧ avM (slX 3 (Fd.best (LoS.f z))) (slX 3 (Fd.best (LoS.f z)))) ∧ True) ∧ 3 = 3 ∧ 1 = 1 ∧ List.length B = List.length B ∧ ∀ (i j : Nat), i < List.length B → j < 1 → IntKind.i64 = .i64 ∧ (↑(usedN us (i : Int)) : Int) = (↑(usedN us (i : Int)) : Int)) ∧ 60 = 60 ∧ 1 = 1 ∧ 0 = 0 ∧ 0 = 0) ∧ 3 = 3 ∧ 1 = 1 ∧ IntKind.i64 = .i64 ∧ (n : Int) = (n : Int)); let q50 := (AV.xl false 3 (List.length (Fd.best (LoS.f z))) fun
 i j => Enc.enc (List.getD (Fd.best (LoS.f z)) i Enc.dflt) j); LoS.i z ≤ us.length ∧ LoS.f z = addF A B k fuel n us f (LoS.i z) ∧ headU us (LoS.st z) → bsplit (ltB (↑(LoS.i z) : Int) (us.length : Int)) (bsplit q15 (∃ (z_1 : Used), (z_1 = List.getD us q16 u0 ∧ 8 = 8 ∧ (6 = 6 ∧ 0 = 0) ∧ (7 = 7 ∧ 0 = 0) ∧ q6 ∧ q17 ∧ q17 ∧ 10 = 10 ∧ 0 = 0) ∧ ((((((((((64 = 64 ∧ 9 = 9 ∧ ((q14 ∧ Fd.found (LoS.f z) = Fd.found (LoS.f z)) ∧ IntKind.i64 = .i64 ∧ Fd.least (LoS.f z) = Fd.least (LoS.f z)) ∧ avM (slX 3 (Fd.best (LoS.f z))) (slX 3 (Fd.best (LoS.f z)))) ∧ True) ∧ 3 = 3 ∧ 1 = 1 ∧ List.length B = List.length B ∧
 ∀ (i j : Nat), i < List.length B → j < 1 → IntKind.i64 = .i64 ∧ (↑(usedN us (i : Int)) : Int) = (↑(usedN us (i : Int)) : Int)) ∧ 60 = 60 ∧ 1 = 1 ∧ 0 = 0 ∧ 0 = 0) ∧ 3 = 3 ∧ 1 = 1 ∧ IntKind.i64 = .i64 ∧ (n : Int) = (n : Int)) ∧ 65 = 65 ∧ 1 = 1 ∧ avM q13 q13) ∧ 73 = 73 ∧ 1 = 1 ∧ 0 = 0 ∧ 0 = 0) ∧ 3 = 3 ∧ 1 = 1 ∧ IntKind.i64 = .i64 ∧ (n : Int) = (n : Int)) ∧ LoopState.ready = LoopState.ready ∧ Non Code = Non Code) ∧ 50 = 50 ∧ 3 = 3 ∧ List.length (LoS.st z) = List.length (LoS.st z) ∧ ∀ (i j : Nat), i < List.length (LoS.st z) → j < 3 → avM (Enc.enc (List.getD (LoS.st z) i u0) j) (Enc.enc (List.getD
 (LoS.st z) i u0) j)) ∧ (50 : TypeId) = 50 ∧ 3 = 3 ∧ ((IntKind.i64 = .i64 ∧ Used.bar q18 = Used.bar z_1) ∧ avM q19 (slN (Used.ps z_1))) ∧ avM q20 (slN (Used.at_ z_1))) False ∧ ∀ (z_1 : Used), let q22 := (DB.db ((0 : Int) ≤ Used.bar z_1 ∧ Used.bar z_1 < (↑(List.length B) : Int))); let q26 := (List.getD B (Int.toNat (Used.bar z_1)) Enc.dflt); let q25 := (AV.agg 6 fun (i : Nat) => Enc.enc q26 (0 + i)); let q31 := (Value.int .i64 (Bar.w q26)); let q32 := (Value.int .i64 (Bar.d q26)); let q33 := (Value.int .i64 (Bar.l q26)); let q34 := (Value.int .i64 (Bar.n q26)); let q35 := (Value.int .i64 (Bar.c
 q26)); let q36 := (Bar.gs q26); let q30 := (AV.agg 6 (listFn [AV.v q31, AV.v q32, AV.v q33, AV.v q34, AV.v q35, slX 2 q36])); let q37 := (AV.xl false 1 (List.length (Used.ps z_1) + 1) fun i j => if 0 + i < List.length (Used.ps z_1) then AV.v (Value.int .i64 (List.getD (Used.ps z_1) (0 + i) Enc.dflt)) else Sx.rowAt [fun (x : Nat) => AV.v (Value.int .i64 (n : Int))] (0 + i - List.length (Used.ps z_1)) j); let q38 := (slD q37); let q40 := (agD q30); let q41 := (lensL (slD (slX 4 A)) q38); let q48 := ((IntKind.i64 = .i64 ∧ Used.bar z_1 = Used.bar z_1) ∧ avM (slN (Used.ps z_1)) (slN (Used.ps z_1)));
 z_1 = List.getD us q16 u0 → bsplit q21 (bsplit q22 (bsplit q23 (bsplit (agOk Bar q25) (bsplit (!sectB q27 (agD q25)) q28 (bsplit q22 (bsplit (DB.db (List.length (Used.ps z_1) * 8 ≤ 140737488355328)) (bsplit (DB.db ((List.length (Used.ps z_1) + 1) * 8 ≤ 140737488355328)) (bsplit (slOk Cut (slX 4 A)) (bsplit (agOk Bar q30) (bsplit (slOk Int q37) (bsplit (inL (slD (slX 4 A)) q38 && Nat.blt (List.length (intsOf q37)) 1000000000) (∃ (z_2 : AtS), (plusU A B k q39 n z_2 ∧ 8 = 8 ∧ (6 = 6 ∧ 0 = 0) ∧ (7 = 7 ∧ 0 = 0) ∧ q6 ∧ q17 ∧ q17 ∧ avM (AV.xl false 1 (List.length (fitsAt q40 q41 k)) fun i j => AV.v
 (Value.int .i64 (List.getD (fitsAt (agD (AV.agg 6 (listFn [AV.v q31, AV.v q32, AV.v q33, AV.v q34, AV.v q35, AV.xl false 2 (List.length q36) fun i j => Enc.enc (List.getD q36 i Enc.dflt) j]))) q41 k) i Enc.dflt))) (slN (AtS.at_ z_2)) ∧ fitsOk q40 q41 k = AtS.is z_2) ∧ (((((q42 ∧ 65 = 65 ∧ 1 = 1 ∧ avM q47 q13) ∧ 73 = 73 ∧ 1 = 1 ∧ 0 = 0 ∧ 0 = 0) ∧ 3 = 3 ∧ 1 = 1 ∧ IntKind.i64 = .i64 ∧ (n : Int) = (n : Int)) ∧ LoopState.ready = LoopState.ready ∧ Non Code = Non Code) ∧ 50 = 50 ∧ 3 = 3 ∧ List.length (LoS.st z) = List.length (LoS.st z) ∧ ∀ (i j : Nat), i < List.length (LoS.st z) → j < 3 → avM (Enc.enc
 (List.getD (LoS.st z) i u0) j) (Enc.enc (List.getD (LoS.st z) i u0) j)) ∧ 50 = 50 ∧ 3 = 3 ∧ q48 ∧ avM (slN (Used.at_ z_1)) (slN (Used.at_ z_1))) False) False) False) False) False) False) False ∧ ∀ (z_2 : AtS), let q49 := (List.set us q16 (putU us q16 n (intsOf (slN (AtS.at_ z_2))))); plusU A B k q39 n z_2 → bsplit (AtS.is z_2) (bsplit q15 (∃ (z_3 : Used), (z_3 = List.getD us q16 u0 ∧ (3 = 3 ∧ 0 = 0) ∧ (4 = 4 ∧ 0 = 0) ∧ (5 = 5 ∧ 0 = 0) ∧ q17 ∧ avM (slN (AtS.at_ z_2)) (slN (AtS.at_ z_2)) ∧ 11 = 11 ∧ 0 = 0) ∧ ((((((q42 ∧ 65 = 65 ∧ 1 = 1 ∧ avM q13 q13) ∧ 73 = 73 ∧ 1 = 1 ∧ 0 = 0 ∧ 0 = 0) ∧ 3 = 3 ∧ 1
 = 1 ∧ IntKind.i64 = .i64 ∧ (n : Int) = (n : Int)) ∧ LoopState.busy = LoopState.busy ∧ Non Code = Non Code) ∧ 50 = 50 ∧ 3 = 3 ∧ List.length (LoS.st z) = List.length (LoS.st z) ∧ ∀ (i j : Nat), i < List.length (LoS.st z) → j < 3 → avM (Enc.enc (List.getD (LoS.st z) i u0) j) (Enc.enc (List.getD (LoS.st z) i u0) j)) ∧ 50 = 50 ∧ 3 = 3 ∧ q48 ∧ avM (slN (Used.at_ z_1)) (slN (Used.at_ z_1))) ∧ (50 : TypeId) = 50 ∧ 3 = 3 ∧ ((IntKind.i64 = .i64 ∧ Used.bar q18 = Used.bar z_3) ∧ avM q19 (slN (Used.ps z_3))) ∧ avM q20 (slN (Used.at_ z_3))) False ∧ ∀ (z_3 : Used), z_3 = List.getD us q16 u0 → bsplit (DB.db
 (List.length (Used.ps z_3) * 8 ≤ 140737488355328)) (bsplit (DB.db ((List.length (Used.ps z_3) + 1) * 8 ≤ 140737488355328)) (bsplit q15 (∃ (z_4 : List Used), (headU q49 z_4 ∧ (3 = 3 ∧ 0 = 0) ∧ (4 = 4 ∧ 0 = 0) ∧ (5 = 5 ∧ 0 = 0) ∧ q17 ∧ 11 = 11 ∧ 0 = 0) ∧ (((((((((((64 = 64 ∧ 9 = 9 ∧ q43 ∧ avM q50 q50) ∧ True) ∧ 3 = 3 ∧ 1 = 1 ∧ List.length B = List.length B ∧ ∀ (i j : Nat), i < List.length B → j < 1 → IntKind.i64 = .i64 ∧ (↑(usedN us (i : Int)) : Int) = (↑(usedN us (i : Int)) : Int)) ∧ 60 = 60 ∧ 1 = 1 ∧ 0 = 0 ∧ 0 = 0) ∧ 3 = 3 ∧ 1 = 1 ∧ IntKind.i64 = .i64 ∧ (n : Int) = (n : Int)) ∧ 65 = 65 ∧ 1 = 1
 ∧ avM q47 q13) ∧ 73 = 73 ∧ 1 = 1 ∧ 0 = 0 ∧ 0 = 0) ∧ 3 = 3 ∧ 1 = 1 ∧ IntKind.i64 = .i64 ∧ (n : Int) = (n : Int)) ∧ LoopState.busy = LoopState.busy ∧ Non Code = Non Code) ∧ 50 = 50 ∧ 3 = 3 ∧ List.length z_4 = List.length (LoS.st z) ∧ ∀ (i j : Nat), i < List.length (LoS.st z) → j < 3 → avM (if i = 0 + Int.toNat (↑(LoS.i z) : Int) ∧ 0 ≤ j ∧ j < 3 then listFn [AV.v (Value.int .i64 (Used.bar z_3)), AV.xl false 1 (List.length (Used.ps z_3) + 1) fun i j => if 0 + i < List.length (Used.ps z_3) then AV.v (Value.int .i64 (List.getD (Used.ps z_3) (0 + i) Enc.dflt)) else Sx.rowAt [fun (x : Nat) => AV.v
 (Value.int .i64 (n : Int))] (0 + i - List.length (Used.ps z_3)) j, slN (AtS.at_ z_2)] (j - 0) else Enc.enc (List.getD (LoS.st z) i u0) j) (Enc.enc (List.getD z_4 i u0) j)) ∧ 50 = 50 ∧ 3 = 3 ∧ q48 ∧ avM (slN (Used.at_ z_1)) (slN (Used.at_ z_1))) ∧ 50 = 50 ∧ 3 = 3 ∧ ((IntKind.i64 = .i64 ∧ Used.bar z_3 = Used.bar z_3) ∧ avM (slN (Used.ps z_3)) (slN (Used.ps z_3))) ∧ avM (slN (Used.at_ z_3)) (slN (Used.at_ z_3))) False) False) False ∧ ∀ (z_4 : List Used), headU q49 z_4 → bsplit q51 (∃ (us_1 : List Used), ∃ (st : List Used), ∃ (f_1 : Fd), (Wk [slX 4 A, slX 6 B, AV.v (Value.int .i64 k), AV.v
 (Value.int .i64 (costU B us)), AV.v (Value.bool (Fd.found (LoS.f z))), AV.v (Value.int .i64 (Fd.least (LoS.f z))), slX 3 (Fd.best (LoS.f z))] [slX 4 A, slX 6 B, AV.v (Value.int .i64 k), AV.v (Value.int .i64 (costU B us_1)), AV.v (Value.bool (Fd.found f_1)), AV.v (Value.int .i64 (Fd.least f_1)), slX 3 (Fd.best f_1)] ∧ (us.length = List.length us_1 ∧ List.length B = List.length B ∧ headU us_1 st) ∧ ToldU (List.length z_4) (fun i j => Enc.enc (List.getD z_4 i u0) j) st ∧ ToldT (List.length B) (fun (j x : Nat) => AV.v (Value.int .i64 (↑(usedN us (j : Int)) : Int))) B us_1 ∧ Fit A B fuel ((n : Int)
 + (1 : Int)) us_1) ∧ ∀ (f' : Fd) (st' : List Used), f' = fromF A B k fuel (Int.toNat ((n : Int) + (1 : Int))) us_1 f_1 ∧ headU us_1 st' → bsplit (DB.db ((0 : Int) ≤ (↑(LoS.i z) : Int) ∧ (↑(LoS.i z) : Int) < (↑(List.length us_1) : Int))) (bsplit q29 (∃ (z' : LoS), (((LoS.i z' ≤ us.length ∧ LoS.f z' = addF A B k fuel n us f (LoS.i z') ∧ headU us (LoS.st z')) ∧ us.length - LoS.i z' < us.length - LoS.i z) ∧ 8 = 8 ∧ (6 = 6 ∧ 0 = 0) ∧ (7 = 7 ∧ 0 = 0) ∧ q6 ∧ IntKind.i64 = .i64 ∧ (↑(LoS.i z) : Int) + (1 : Int) = (↑(LoS.i z') : Int)) ∧ (((((((((64 = 64 ∧ 9 = 9 ∧ (((((q44 ∧ 9 = 9 ∧ 0 = 0 ∧ us.length =
 List.length us_1) ∧ 2 = 2 ∧ 0 = 0 ∧ List.length B = List.length B) ∧ IntKind.i64 = .i64 ∧ costU B us_1 = costU B us) ∧ Fd.found f' = Fd.found (LoS.f z')) ∧ IntKind.i64 = .i64 ∧ Fd.least f' = Fd.least (LoS.f z')) ∧ avM (AV.xl false 3 (List.length (Fd.best f')) fun i j => Enc.enc (List.getD (Fd.best f') i Enc.dflt) j) (AV.xl false 3 (List.length (Fd.best (LoS.f z'))) fun i j => Enc.enc (List.getD (Fd.best (LoS.f z')) i Enc.dflt) j)) ∧ True) ∧ 3 = 3 ∧ 1 = 1 ∧ List.length B = List.length B ∧ ∀ (i j : Nat), i < List.length B → j < 1 → IntKind.i64 = .i64 ∧ (↑(usedN us_1 (i : Int)) : Int) = (↑(usedN
 us (i : Int)) : Int)) ∧ 60 = 60 ∧ 1 = 1 ∧ 0 = 0 ∧ 0 = 0) ∧ 3 = 3 ∧ 1 = 1 ∧ IntKind.i64 = .i64 ∧ (n : Int) = (n : Int)) ∧ 65 = 65 ∧ 1 = 1 ∧ avM q13 q13) ∧ 73 = 73 ∧ 1 = 1 ∧ 0 = 0 ∧ 0 = 0) ∧ 3 = 3 ∧ 1 = 1 ∧ IntKind.i64 = .i64 ∧ (n : Int) = (n : Int)) ∧ LoopState.ready = LoopState.ready ∧ Non Code = Non Code) ∧ 50 = 50 ∧ 3 = 3 ∧ List.length (LoS.st z') = List.length st' ∧ ∀ (i j : Nat), i < List.length st' → j < 3 → avM (if i = 0 + Int.toNat (↑(LoS.i z) : Int) ∧ 0 ≤ j ∧ j < 3 then Enc.enc z_3 (0 + (j - 0)) else Enc.enc (List.getD st' i u0) j) (Enc.enc (List.getD (LoS.st z') i u0) j)) False) False)
 False) q28)) False) False) False) False) (∃ (z_1 : SrS), ((SrS.f z_1 = addF A B k fuel n us f (us.length) ∧ headU us (SrS.st z_1)) ∧ (3 = 3 ∧ 0 = 0) ∧ (4 = 4 ∧ 0 = 0) ∧ 5 = 5 ∧ 0 = 0) ∧ (((((((((64 = 64 ∧ 9 = 9 ∧ ((q14 ∧ Fd.found (LoS.f z) = Fd.found (SrS.f z_1)) ∧ IntKind.i64 = .i64 ∧ Fd.least (LoS.f z) = Fd.least (SrS.f z_1)) ∧ avM (slX 3 (Fd.best (LoS.f z))) (slX 3 (Fd.best (SrS.f z_1)))) ∧ True) ∧ 3 = 3 ∧ 1 = 1 ∧ List.length B = List.length B ∧ ∀ (i j : Nat), i < List.length B → j < 1 → IntKind.i64 = .i64 ∧ (↑(usedN us (i : Int)) : Int) = (↑(usedN us (i : Int)) : Int)) ∧ 60 = 60 ∧ 1 = 1 ∧ 0
 = 0 ∧ 0 = 0) ∧ 3 = 3 ∧ 1 = 1 ∧ IntKind.i64 = .i64 ∧ (n : Int) = (n : Int)) ∧ 65 = 65 ∧ 1 = 1 ∧ avM q13 q13) ∧ True) ∧ True) ∧ True) ∧ 50 = 50 ∧ 3 = 3 ∧ List.length (SrS.st z_1) = List.length (LoS.st z) ∧ ∀ (i j : Nat), i < List.length (LoS.st z) → j < 3 → avM (Enc.enc (List.getD (LoS.st z) i u0) j) (Enc.enc (List.getD (SrS.st z_1) i u0) j))) ∧ ∀ (z : SrS), SrS.f z = addF A B k fuel n us f (us.length) ∧ headU us (SrS.st z) → (∃ (z_1 : LoS), ((LoS.i z_1 ≤ List.length B ∧ LoS.f z_1 = freF A B k fuel n us (addF A B k fuel n us f (us.length)) (LoS.i z_1) ∧ headU us (LoS.st z_1)) ∧ 12 = 12 ∧ (10 = 10
 ∧ 0 = 0) ∧ (11 = 11 ∧ 0 = 0) ∧ avM (slX 6 B) (slX 6 B) ∧ q52 ∧ IntKind.i64 = .i64 ∧ (0 : Int) = (↑(LoS.i z_1) : Int)) ∧ (((((((((((((64 = 64 ∧ 9 = 9 ∧ ((q53 ∧ Fd.found (SrS.f z) = Fd.found (LoS.f z_1)) ∧ IntKind.i64 = .i64 ∧ Fd.least (SrS.f z) = Fd.least (LoS.f z_1)) ∧ avM (slX 3 (Fd.best (SrS.f z))) (slX 3 (Fd.best (LoS.f z_1)))) ∧ True) ∧ 3 = 3 ∧ 1 = 1 ∧ List.length B = List.length B ∧ ∀ (i j : Nat), i < List.length B → j < 1 → IntKind.i64 = .i64 ∧ (↑(usedN us (i : Int)) : Int) = (↑(usedN us (i : Int)) : Int)) ∧ 60 = 60 ∧ 1 = 1 ∧ 0 = 0 ∧ 0 = 0) ∧ 3 = 3 ∧ 1 = 1 ∧ IntKind.i64 = .i64 ∧ (n : Int)
 = (n : Int)) ∧ 65 = 65 ∧ 1 = 1 ∧ avM q13 q13) ∧ True) ∧ True) ∧ True) ∧ True) ∧ (73 : TypeId) = 73 ∧ 1 = 1 ∧ 0 = 0 ∧ 0 = 0) ∧ (3 : TypeId) = 3 ∧ 1 = 1 ∧ IntKind.i64 = .i64 ∧ (n : Int) = (n : Int)) ∧ LoopState.ready = LoopState.ready ∧ Non Code = Non Code) ∧ 50 = 50 ∧ 3 = 3 ∧ List.length (LoS.st z_1) = List.length (SrS.st z) ∧ ∀ (i j : Nat), i < List.length (SrS.st z) → j < 3 → avM (Enc.enc (List.getD (SrS.st z) i u0) j) (Enc.enc (List.getD (LoS.st z_1) i u0) j)) ∧ ∀ (z : LoS), let q55 := ((0 : Int) ≤ (↑(LoS.i z) : Int) ∧ (↑(LoS.i z) : Int) < (↑(List.length B) : Int)); let q54 := (DB.db q55);
 let q57 := (AV.int (AV.v (Value.int .i64 (↑(LoS.i z) : Int)))); let q56 := (Int.toNat q57); let q58 := (IntKind.i64 = .i64 ∧ (↑(LoS.i z) : Int) = (↑(LoS.i z) : Int)); let q59 := (List.getD B (Int.toNat (↑(LoS.i z) : Int)) Enc.dflt); let q65 := (↑(0 + Int.toNat (↑(LoS.i z) : Int)) : Int); let q64 := (↑(usedN us q65) : Int); let q67 := (DB.db (inK .i64 ((↑(LoS.i z) : Int) + (1 : Int)))); let q69 := (AV.xl false 3 (List.length (Fd.best (LoS.f z))) fun i j => Enc.enc (List.getD (Fd.best (LoS.f z)) i Enc.dflt) j); let q66 := (bsplit q67 (∃ (z' : LoS), (((LoS.i z' ≤ List.length B ∧ LoS.f z' = freF A
 B k fuel n us (addF A B k fuel n us f (us.length)) (LoS.i z') ∧ headU us (LoS.st z')) ∧ List.length B - LoS.i z' < List.length B - LoS.i z) ∧ 12 = 12 ∧ (10 = 10 ∧ 0 = 0) ∧ (11 = 11 ∧ 0 = 0) ∧ avM (slX 6 B) (slX 6 B) ∧ q52 ∧ IntKind.i64 = .i64 ∧ (↑(LoS.i z) : Int) + (1 : Int) = (↑(LoS.i z') : Int)) ∧ (((((((((((((64 = 64 ∧ 9 = 9 ∧ ((q68 ∧ Fd.found (LoS.f z) = Fd.found (LoS.f z')) ∧ IntKind.i64 = .i64 ∧ Fd.least (LoS.f z) = Fd.least (LoS.f z')) ∧ avM q69 (AV.xl false 3 (List.length (Fd.best (LoS.f z'))) fun i j => Enc.enc (List.getD (Fd.best (LoS.f z')) i Enc.dflt) j)) ∧ True) ∧ 3 = 3 ∧ 1 = 1 ∧
 List.length B = List.length B ∧ ∀ (i j : Nat), i < List.length B → j < 1 → IntKind.i64 = .i64 ∧ (↑(usedN us (i : Int)) : Int) = (↑(usedN us (i : Int)) : Int)) ∧ 60 = 60 ∧ 1 = 1 ∧ 0 = 0 ∧ 0 = 0) ∧ 3 = 3 ∧ 1 = 1 ∧ IntKind.i64 = .i64 ∧ (n : Int) = (n : Int)) ∧ 65 = 65 ∧ 1 = 1 ∧ avM q13 q13) ∧ True) ∧ True) ∧ True) ∧ True) ∧ 73 = 73 ∧ 1 = 1 ∧ 0 = 0 ∧ 0 = 0) ∧ 3 = 3 ∧ 1 = 1 ∧ IntKind.i64 = .i64 ∧ (n : Int) = (n : Int)) ∧ LoopState.ready = LoopState.ready ∧ Non Code = Non Code) ∧ 50 = 50 ∧ 3 = 3 ∧ List.length (LoS.st z') = List.length (LoS.st z) ∧ ∀ (i j : Nat), i < List.length (LoS.st z) → j < 3 →
 avM (Enc.enc (List.getD (LoS.st z) i u0) j) (Enc.enc (List.getD (LoS.st z') i u0) j)) False); let q73 := (Used.mk q57 [] []); let q76 := (q64 + (1 : Int)); let q78 := (costU B us + Bar.c q59); LoS.i z ≤ List.length B ∧ LoS.f z = freF A B k fuel n us (addF A B k fuel n us f (us.length)) (LoS.i z) ∧ headU us (LoS.st z) → bsplit (ltB (↑(LoS.i z) : Int) (↑(List.length B) : Int)) (bsplit q54 (∃ (z_1 : Bar), (z_1 = List.getD B q56 b0 ∧ 12 = 12 ∧ (10 = 10 ∧ 0 = 0) ∧ (11 = 11 ∧ 0 = 0) ∧ avM (slX 6 B) (slX 6 B) ∧ q52 ∧ q58 ∧ q58 ∧ 14 = 14 ∧ 0 = 0) ∧ ((((((((((((((64 = 64 ∧ 9 = 9 ∧ ((q53 ∧ Fd.found
 (LoS.f z) = Fd.found (LoS.f z)) ∧ IntKind.i64 = .i64 ∧ Fd.least (LoS.f z) = Fd.least (LoS.f z)) ∧ avM (slX 3 (Fd.best (LoS.f z))) (slX 3 (Fd.best (LoS.f z)))) ∧ True) ∧ 3 = 3 ∧ 1 = 1 ∧ List.length B = List.length B ∧ ∀ (i j : Nat), i < List.length B → j < 1 → IntKind.i64 = .i64 ∧ (↑(usedN us (i : Int)) : Int) = (↑(usedN us (i : Int)) : Int)) ∧ 60 = 60 ∧ 1 = 1 ∧ 0 = 0 ∧ 0 = 0) ∧ 3 = 3 ∧ 1 = 1 ∧ IntKind.i64 = .i64 ∧ (n : Int) = (n : Int)) ∧ 65 = 65 ∧ 1 = 1 ∧ avM q13 q13) ∧ True) ∧ True) ∧ True) ∧ True) ∧ 73 = 73 ∧ 1 = 1 ∧ 0 = 0 ∧ 0 = 0) ∧ 3 = 3 ∧ 1 = 1 ∧ IntKind.i64 = .i64 ∧ (n : Int) = (n :
 Int)) ∧ LoopState.ready = LoopState.ready ∧ Non Code = Non Code) ∧ 50 = 50 ∧ 3 = 3 ∧ List.length (LoS.st z) = List.length (LoS.st z) ∧ ∀ (i j : Nat), i < List.length (LoS.st z) → j < 3 → avM (Enc.enc (List.getD (LoS.st z) i u0) j) (Enc.enc (List.getD (LoS.st z) i u0) j)) ∧ (26 : TypeId) = 26 ∧ 6 = 6 ∧ (((((IntKind.i64 = .i64 ∧ Bar.w q59 = Bar.w z_1) ∧ IntKind.i64 = .i64 ∧ Bar.d q59 = Bar.d z_1) ∧ IntKind.i64 = .i64 ∧ Bar.l q59 = Bar.l z_1) ∧ IntKind.i64 = .i64 ∧ Bar.n q59 = Bar.n z_1) ∧ IntKind.i64 = .i64 ∧ Bar.c q59 = Bar.c z_1) ∧ avM (slX 2 (Bar.gs q59)) (slX 2 (Bar.gs z_1))) False ∧ ∀ (z_1 :
 Bar), let q61 := (AV.agg 6 fun (i : Nat) => Enc.enc z_1 (0 + i)); let q60 := (agOk Bar q61); let q63 := (agD q61); let q62 := (!bsel false !sectB q27 q63 || bsel false !sectB q27 q63); let q75 := (((((IntKind.i64 = .i64 ∧ Bar.w z_1 = Bar.w z_1) ∧ IntKind.i64 = .i64 ∧ Bar.d z_1 = Bar.d z_1) ∧ IntKind.i64 = .i64 ∧ Bar.l z_1 = Bar.l z_1) ∧ IntKind.i64 = .i64 ∧ Bar.n z_1 = Bar.n z_1) ∧ IntKind.i64 = .i64 ∧ Bar.c z_1 = Bar.c z_1); z_1 = List.getD B q56 b0 → bsplit q21 (bsplit q23 (bsplit q60 (bsplit q62 (bsplit q62 (bsplit q62 (bsplit q62 (bsplit q62 (bsplit (!bsel false !sectB q27 q63 || DB.db q55)
 (bsplit q62 (bsplit q62 (bsplit q62 (bsplit q62 (bsplit (!!!sectB q27 q63 || bsel false !sectB q27 q63) (bsplit (bif !sectB q27 q63 then true else leB (Bar.n z_1) q64) q66 (bsplit (slOk Cut (slX 4 A)) (bsplit q60 (bsplit (inL (slD (slX 4 A)) q70 && Nat.blt (List.length (intsOf q71)) 1000000000) (∃ (z_2 : AtS), (plusU A B k q73 n z_2 ∧ 12 = 12 ∧ (10 = 10 ∧ 0 = 0) ∧ (11 = 11 ∧ 0 = 0) ∧ avM (slX 6 B) (slX 6 B) ∧ q52 ∧ q58 ∧ q58 ∧ avM (slN (fitsAt q63 q74 k)) (slN (AtS.at_ z_2)) ∧ fitsOk q63 q74 k = AtS.is z_2) ∧ ((((((((((((((64 = 64 ∧ 9 = 9 ∧ ((q68 ∧ Fd.found (LoS.f z) = Fd.found (LoS.f z)) ∧
 IntKind.i64 = .i64 ∧ Fd.least (LoS.f z) = Fd.least (LoS.f z)) ∧ avM q69 q69) ∧ True) ∧ 3 = 3 ∧ 1 = 1 ∧ List.length B = List.length B ∧ ∀ (i j : Nat), i < List.length B → j < 1 → IntKind.i64 = .i64 ∧ (↑(usedN us (i : Int)) : Int) = (↑(usedN us (i : Int)) : Int)) ∧ 60 = 60 ∧ 1 = 1 ∧ 0 = 0 ∧ 0 = 0) ∧ 3 = 3 ∧ 1 = 1 ∧ IntKind.i64 = .i64 ∧ (n : Int) = (n : Int)) ∧ 65 = 65 ∧ 1 = 1 ∧ avM q13 q13) ∧ True) ∧ True) ∧ True) ∧ True) ∧ 73 = 73 ∧ 1 = 1 ∧ 0 = 0 ∧ 0 = 0) ∧ 3 = 3 ∧ 1 = 1 ∧ IntKind.i64 = .i64 ∧ (n : Int) = (n : Int)) ∧ LoopState.ready = LoopState.ready ∧ Non Code = Non Code) ∧ 50 = 50 ∧ 3 = 3 ∧
 List.length (LoS.st z) = List.length (LoS.st z) ∧ ∀ (i j : Nat), i < List.length (LoS.st z) → j < 3 → avM (Enc.enc (List.getD (LoS.st z) i u0) j) (Enc.enc (List.getD (LoS.st z) i u0) j)) ∧ 26 = 26 ∧ 6 = 6 ∧ q75 ∧ avM (slX 2 (Bar.gs z_1)) (slX 2 (Bar.gs z_1))) False) False) False ∧ ∀ (z_2 : AtS), let q77 := (us ++ [Used.mk q57 [(n : Int)] (intsOf (AV.xl false 1 (List.length (AtS.at_ z_2)) fun i j => AV.v (Value.int .i64 (List.getD (AtS.at_ z_2) i Enc.dflt))))]); plusU A B k q73 n z_2 → bsplit (AtS.is z_2) (bsplit (DB.db ((us.length + 1) * 56 ≤ 140737488355328)) (bsplit q54 (bsplit (DB.db (inK
 .i64 q76)) (bsplit q54 (∃ (z_3 : Unit), (True ∧ (3 = 3 ∧ 0 = 0) ∧ (4 = 4 ∧ 0 = 0) ∧ (5 = 5 ∧ 0 = 0) ∧ IntKind.i64 = .i64 ∧ (↑(LoS.i z) : Int) = (↑(LoS.i z) : Int)) ∧ (((((((((((((((64 = 64 ∧ 9 = 9 ∧ (((((q44 ∧ 15 = 15 ∧ 0 = 0 ∧ us.length + 1 = us.length + 1) ∧ 2 = 2 ∧ 0 = 0 ∧ List.length B = List.length B) ∧ IntKind.i64 = .i64 ∧ costU B us = costU B us) ∧ Fd.found (LoS.f z) = Fd.found (LoS.f z)) ∧ IntKind.i64 = .i64 ∧ Fd.least (LoS.f z) = Fd.least (LoS.f z)) ∧ avM q69 q69) ∧ True) ∧ 3 = 3 ∧ 1 = 1 ∧ List.length B = List.length B ∧ ∀ (i j : Nat), i < List.length B → j < 1 → avM (if i = 0 +
 Int.toNat (↑(LoS.i z) : Int) ∧ 0 ≤ j ∧ j < 1 then AV.v (Value.int .i64 q76) else AV.v (Value.int .i64 (↑(usedN us (i : Int)) : Int))) (AV.v (Value.int .i64 (↑(usedN q77 (i : Int)) : Int)))) ∧ 60 = 60 ∧ 1 = 1 ∧ 0 = 0 ∧ 0 = 0) ∧ 3 = 3 ∧ 1 = 1 ∧ IntKind.i64 = .i64 ∧ (n : Int) = (n : Int)) ∧ 65 = 65 ∧ 1 = 1 ∧ avM q13 q13) ∧ True) ∧ True) ∧ True) ∧ True) ∧ 73 = 73 ∧ 1 = 1 ∧ 0 = 0 ∧ 0 = 0) ∧ 3 = 3 ∧ 1 = 1 ∧ IntKind.i64 = .i64 ∧ (n : Int) = (n : Int)) ∧ LoopState.busy = LoopState.busy ∧ Non Code = Non Code) ∧ True) ∧ 26 = 26 ∧ 6 = 6 ∧ q75 ∧ avM (slX 2 (Bar.gs z_1)) (slX 2 (Bar.gs z_1))) ∧ (50 :
 TypeId) = 50 ∧ 3 = 3 ∧ us.length + 1 = us.length + 1 ∧ ∀ (i j : Nat), i < us.length + 1 → j < 3 → avM (if i < us.length then Enc.enc (List.getD (LoS.st z) i u0) j else Sx.rowAt [listFn [AV.v (Value.int .i64 (↑(LoS.i z) : Int)), AV.xl true 1 1 q72, AV.xl false 1 (List.length (AtS.at_ z_2)) fun i j => AV.v (Value.int .i64 (List.getD (AtS.at_ z_2) i Enc.dflt))]] (i - us.length) j) (Enc.enc (List.getD q77 i u0) j)) False) False) False) False ∧ ∀ (z_3 : Unit), True → bsplit q54 (bsplit (DB.db (inK .i64 q78)) (bsplit q51 (∃ (us_1 : List Used), let q79 := ((↑(usedN us_1 q65) : Int) - (1 : Int)); let
 q80 := ((↑(List.length us_1) : Int) - (1 : Int)); ∃ (st : List Used), ∃ (f_1 : Fd), (Wk [slX 4 A, slX 6 B, AV.v (Value.int .i64 k), AV.v (Value.int .i64 q78), AV.v (Value.bool (Fd.found (LoS.f z))), AV.v (Value.int .i64 (Fd.least (LoS.f z))), slX 3 (Fd.best (LoS.f z))] [slX 4 A, slX 6 B, AV.v (Value.int .i64 k), AV.v (Value.int .i64 (costU B us_1)), AV.v (Value.bool (Fd.found f_1)), AV.v (Value.int .i64 (Fd.least f_1)), slX 3 (Fd.best f_1)] ∧ (us.length + 1 = List.length us_1 ∧ List.length B = List.length B ∧ headU us_1 st) ∧ ToldU (us.length + 1) (fun i j => Enc.enc (List.getD q77 i u0) j) st
 ∧ ToldT (List.length B) (fun (j x : Nat) => AV.v (Value.int .i64 (↑(usedN q77 (j : Int)) : Int))) B us_1 ∧ Fit A B fuel ((n : Int) + (1 : Int)) us_1) ∧ ∀ (f' : Fd) (st' : List Used), f' = fromF A B k fuel (Int.toNat ((n : Int) + (1 : Int))) us_1 f_1 ∧ headU us_1 st' → bsplit q54 (bsplit (DB.db (inK .i64 (costU B us_1 - Bar.c q59))) (bsplit q54 (bsplit (DB.db (inK .i64 q79)) (bsplit q54 (bsplit (DB.db (inK .i64 q80)) (bsplit (DB.db ((0 : Int) ≤ (↑(List.length us_1) : Int) - (1 : Int) ∧ (↑(List.length us_1) : Int) - (1 : Int) ≤ (↑(List.length us_1) : Int))) (bsplit q67 (∃ (z' : LoS), (((LoS.i z'
 ≤ List.length B ∧ LoS.f z' = freF A B k fuel n us (addF A B k fuel n us f (us.length)) (LoS.i z') ∧ headU us (LoS.st z')) ∧ List.length B - LoS.i z' < List.length B - LoS.i z) ∧ 12 = 12 ∧ (10 = 10 ∧ 0 = 0) ∧ (11 = 11 ∧ 0 = 0) ∧ avM q46 q46 ∧ q52 ∧ IntKind.i64 = .i64 ∧ (↑(LoS.i z) : Int) + (1 : Int) = (↑(LoS.i z') : Int)) ∧ (((((((((((((64 = 64 ∧ 9 = 9 ∧ (((((q44 ∧ 13 = 13 ∧ 0 = 0 ∧ us.length = Int.toNat q80) ∧ 2 = 2 ∧ 0 = 0 ∧ List.length B = List.length B) ∧ IntKind.i64 = .i64 ∧ costU B us_1 - Bar.c q59 = costU B us) ∧ Fd.found f' = Fd.found (LoS.f z')) ∧ IntKind.i64 = .i64 ∧ Fd.least f' =
 Fd.least (LoS.f z')) ∧ avM (AV.xl false 3 (List.length (Fd.best f')) fun i j => Enc.enc (List.getD (Fd.best f') i Enc.dflt) j) (AV.xl false 3 (List.length (Fd.best (LoS.f z'))) fun i j => Enc.enc (List.getD (Fd.best (LoS.f z')) i Enc.dflt) j)) ∧ True) ∧ 3 = 3 ∧ 1 = 1 ∧ List.length B = List.length B ∧ ∀ (i j : Nat), i < List.length B → j < 1 → avM (if i = 0 + Int.toNat (↑(LoS.i z) : Int) ∧ 0 ≤ j ∧ j < 1 then AV.v (Value.int .i64 q79) else AV.v (Value.int .i64 (↑(usedN us_1 (i : Int)) : Int))) (AV.v (Value.int .i64 (↑(usedN us (i : Int)) : Int)))) ∧ 60 = 60 ∧ 1 = 1 ∧ 0 = 0 ∧ 0 = 0) ∧ 3 = 3 ∧ 1 =
 1 ∧ IntKind.i64 = .i64 ∧ (n : Int) = (n : Int)) ∧ 65 = 65 ∧ 1 = 1 ∧ avM q13 q13) ∧ True) ∧ True) ∧ True) ∧ True) ∧ 73 = 73 ∧ 1 = 1 ∧ 0 = 0 ∧ 0 = 0) ∧ 3 = 3 ∧ 1 = 1 ∧ IntKind.i64 = .i64 ∧ (n : Int) = (n : Int)) ∧ LoopState.ready = LoopState.ready ∧ Non Code = Non Code) ∧ 50 = 50 ∧ 3 = 3 ∧ List.length (LoS.st z') = List.length st' ∧ ∀ (i j : Nat), i < List.length st' → j < 3 → avM (Enc.enc (List.getD st' i u0) j) (Enc.enc (List.getD (LoS.st z') i u0) j)) False) False) False) False) False) False) False) False) False) False) False) q66)) False) False) False) False) False) False) False) False)
 False) False) False) False) False) False) (True ∧ ∃ (z_1 : SrS), ((SrS.f z_1 = fromF A B k (fuel + 1) n us f ∧ headU us (SrS.st z_1)) ∧ True) ∧ (((64 = 64 ∧ 9 = 9 ∧ ((q4 ∧ Fd.found (LoS.f z) = Fd.found (SrS.f z_1)) ∧ IntKind.i64 = .i64 ∧ Fd.least (LoS.f z) = Fd.least (SrS.f z_1)) ∧ avM (slX 3 (Fd.best (LoS.f z))) (slX 3 (Fd.best (SrS.f z_1)))) ∧ True) ∧ 3 = 3 ∧ 1 = 1 ∧ List.length B = List.length B ∧ ∀ (i j : Nat), i < List.length B → j < 1 → IntKind.i64 = .i64 ∧ (↑(usedN us (i : Int)) : Int) = (↑(usedN us (i : Int)) : Int)) ∧ 50 = 50 ∧ 3 = 3 ∧ List.length (SrS.st z_1) = List.length (LoS.st z)
 ∧ ∀ (i j : Nat), i < List.length (LoS.st z) → j < 3 → avM (Enc.enc (List.getD (LoS.st z) i u0) j) (Enc.enc (List.getD (SrS.st z_1) i u0) j))))) False) False) False) False) False) False) False) False) False := by
  dsimp only
  obtain ⟨f1, f2, f3, f4⟩ := hf
  simp only [Int.toNat_natCast] at f2 f3 f4
  have hlen : us.length ≤ 8 := by have := f4.len; omega
  have hcost := costU_bound hB (us := us) fun u hu => ⟨(f4.in_ u hu).1, (f4.in_ u hu).2.1⟩
  have e0 : (Enc.dflt : Int) = 0 := rfl
  have e1 : (Enc.dflt : Cut) = c0 := rfl
  have e2 : (Enc.dflt : Bar) = b0 := rfl
  have e3 : (Enc.dflt : Used) = u0 := rfl
  simp only [row_one]
  simp only [slX, slN, avM_refl, true_and, and_true, bsel_true, bsel_false, vc_own, bif_or, bif_and, vc_gdb, vc_db, vc_lt, vc_le, vc_ne, vc_eq, vc_tt, Int.toNat_natCast, Nat.zero_add, Nat.zero_le, Nat.sub_zero, agD_bar, agOk_bar, agD_bar', agOk_bar', agD_cut, agOk_cut, agD_cut', agOk_cut', agD_used, agOk_used, agD_used', agOk_used', int_i, Bool.or_true, cond_true, cond_false, okC, okC', deC, deC', okB, deB, okB', deB', okIn, okIn', deI, deI', okU, okU', deU, deU', okBl, deBl, okUl, deUl, deIo, cutsOf_sl, deUo, okBf, deBf, e0, e1, e2, e3, ltB_nat, pred_nat, okApp, deApp, deAppI, okOne, deOne, deOneI]
  simp only [vc_b]
  have hs' : (f.found && leB f.least (costU B us)) = stopF B us f := rfl
  simp only [hs']
  have hT1 : ∀ i j : Nat, i < B.length → j < 1 → True := fun _ _ _ _ => trivial
  have hT : ∀ (m : Nat), ∀ i j : Nat, i < m → j < 3 → True := fun _ _ _ _ _ => trivial
  have both : ∀ {P : Prop}, P → P ∧ P := fun h => ⟨h, h⟩
  cases hs : stopF B us f with
  | true =>
    simp only [vc_tt]
    exact ⟨⟨f, st⟩, ⟨by rw [fromF_step, hs]; rfl, hu⟩, ⟨⟨⟨rfl, rfl⟩, avM_refl _⟩, fun _ _ _ _ => trivial⟩, rfl, fun _ _ _ _ => avM_refl _⟩
  | false =>
    simp only [vc_ff]
    refine ⟨fun hn => ?_, fun hn => ?_⟩
    · have hn' : n = A.length := by omega
      refine ⟨⟨0, ⟨Nat.zero_le _, rfl⟩, ⟨⟨rfl, hT _⟩, hT1⟩, rfl⟩, fun z hz => ⟨fun hlt => ?_, fun hge => ?_⟩⟩
      · have hlt' : z < us.length := by omega
        have e : st.getD z u0 = us.getD z u0 := hu.at hlt'
        have hm := getD_mem hlt'
        have q1 := f4.ps _ hm
        have q2 := f4.at_ _ hm
        rw [e]
        refine ⟨⟨by omega, hlt⟩, by omega, by omega, both ⟨by omega, ⟨by omega, by omega⟩, z + 1, ⟨⟨by omega, by omega⟩, rfl⟩, ⟨⟨rfl, hT _⟩, hT1⟩, rfl, fun i j hi hj => ?_⟩⟩
        split
        · exact avM_refl _
        · obtain rfl : i = z := by omega
          exact usedRow _ hj
      · obtain rfl : z = us.length := by omega
        exact ⟨⟨⟨true, costU B us, us⟩, st⟩, ⟨by rw [fromF_step, hs, hn', Nat.beq_refl]; simp only [cond_false, cond_true, keepF, hs], hu⟩, ⟨⟨⟨rfl, rfl⟩, avM_refl _⟩, hT1⟩, rfl, fun _ _ _ _ => avM_refl _⟩
    · have hn' : n < A.length := by omega
      have hfr : fromF A B k (fuel + 1) n us f = freF A B k fuel n us (addF A B k fuel n us f us.length) B.length := by
        rw [fromF_step, hs, show Nat.beq n A.length = false from Bool.eq_false_iff.2 fun h => by have := Nat.eq_of_beq_eq_true h; omega]; rfl
      refine ⟨⟨⟨(), ⟨hT _, hT1⟩, ?_⟩, fun _ _ => ⟨⟨⟨0, f, st⟩, ⟨⟨Nat.zero_le _, rfl, hu⟩, rfl⟩, ⟨⟨⟨rfl, rfl⟩, avM_refl _⟩, hT1⟩, rfl, fun _ _ _ _ => avM_refl _⟩, fun z ⟨z1, z2, z3⟩ => ⟨fun hlt => ?_, fun hge => ?_⟩⟩⟩,
        fun z ⟨z1, z2⟩ => ⟨⟨⟨0, z.f, z.st⟩, ⟨⟨Nat.zero_le _, z1, z2⟩, rfl⟩, ⟨⟨⟨rfl, rfl⟩, avM_refl _⟩, hT1⟩, rfl, fun _ _ _ _ => avM_refl _⟩, fun z' ⟨y1, y2, y3⟩ => ⟨fun hlt => ?_, fun hge => ?_⟩⟩⟩
      · exact ⟨rfl, rfl, rfl, avM_refl (AV.np 0 0), trivial⟩
      · have hi : z.i < us.length := by omega
        have hz : z.st.getD z.i u0 = us.getD z.i u0 := z3.at hi
        have hm := getD_mem hi
        have hb := f4.in_ _ hm
        have q1 := f4.ps _ hm
        have q2 := f4.at_ _ hm
        refine ⟨⟨⟨by omega, hlt⟩, us.getD z.i u0, rfl, ⟨hT1, hT _⟩, ⟨by rw [hz], by rw [hz]; exact avM_refl _⟩, by rw [hz]; exact avM_refl _⟩, fun u hu' => ?_⟩
        obtain rfl := hu'
        refine ⟨⟨by omega, by omega⟩, ⟨hb.1, by omega⟩, ?_⟩
        have skip : withU A B k (us.getD z.i u0) n = none → z.f = addF A B k fuel n us f (z.i + 1) := fun hw => by
          rw [addF_succ, hw]; exact z2
        have go : z.f = addF A B k fuel n us f (z.i + 1) → (inK .i64 ((z.i : Int) + 1) ∧ ∃ z' : LoS, (((z'.i ≤ us.length ∧ z'.f = addF A B k fuel n us f z'.i ∧ headU us z'.st) ∧ us.length - z'.i < us.length - z.i) ∧ (z.i : Int) + 1 = z'.i) ∧
            (((z.f.found = z'.f.found ∧ z.f.least = z'.f.least) ∧ avM (AV.xl false 3 z.f.best.length fun i j => Enc.enc (z.f.best.getD i u0) j) (AV.xl false 3 z'.f.best.length fun i j => Enc.enc (z'.f.best.getD i u0) j)) ∧ ∀ i j : Nat, i < B.length → j < 1 → True) ∧
            z'.st.length = z.st.length ∧ ∀ i j : Nat, i < z.st.length → j < 3 → avM (Enc.enc (z.st.getD i u0) j) (Enc.enc (z'.st.getD i u0) j)) := fun hw =>
          ⟨⟨by omega, by omega⟩, ⟨z.i + 1, z.f, z.st⟩, ⟨⟨⟨by show z.i + 1 ≤ _; omega, hw, z3⟩, by show us.length - (z.i + 1) < _; omega⟩, rfl⟩, ⟨⟨⟨rfl, rfl⟩, avM_refl _⟩, hT1⟩, rfl, fun _ _ _ _ => avM_refl _⟩
        cases hsec : sectB (A.getD n c0) (B.getD (us.getD z.i u0).bar.toNat b0) with
        | false =>
          simp only [Bool.not_false, vc_tt]
          exact go (skip (by unfold withU barAt; rw [hsec]; rfl))
        | true =>
          simp only [Bool.not_true, vc_ff]
          refine ⟨⟨⟨hb.1, by omega⟩, by omega, by omega, ?_, ⟨fitsAt (barAt B (us.getD z.i u0)) (lensL A ((us.getD z.i u0).ps ++ [(n : Int)])) k, fitsOk (barAt B (us.getD z.i u0)) (lensL A ((us.getD z.i u0).ps ++ [(n : Int)])) k⟩, ⟨⟨rfl, rfl⟩, avM_refl _, rfl⟩, hT1, hT _⟩, fun zz ⟨p1, p2⟩ => ?_⟩
          · rw [Bool.and_eq_true]
            refine ⟨List.all_eq_true.2 fun p hp => ?_, (blt_iff _ _).2 (by simp only [List.length_append, List.length_singleton]; omega)⟩
            rw [Bool.and_eq_true, leB_iff, ltB_iff]
            rcases List.mem_append.1 hp with hp | hp
            · have := hb.2.2 p hp; omega
            · rw [List.mem_singleton] at hp; omega
          cases hok : zz.is with
          | false =>
            simp only [vc_ff]
            exact go (skip (by unfold withU; rw [← p1, hok, Bool.and_false]; rfl))
          | true =>
            simp only [vc_tt]
            have hw : withU A B k (us.getD z.i u0) n = some (putU us z.i n zz.at_) := by
              unfold withU barAt
              rw [hsec]
              unfold barAt at p1 p2
              rw [← p1, hok, p2]
              rfl
            have hat : zz.at_.length = (us.getD z.i u0).ps.length + 1 := by
              rw [p2, fitsAt_len (by rw [← p1, hok])]
              simp [lensL]
            refine ⟨⟨⟨by omega, hlt⟩, us.getD z.i u0, rfl, ⟨hT1, hT _⟩, ⟨by rw [hz], by rw [hz]; exact avM_refl _⟩, by rw [hz]; exact avM_refl _⟩, fun u hu' => ?_⟩
            obtain rfl := hu'
            refine ⟨⟨by omega, by omega, ⟨by omega, hlt⟩, z.st.set z.i (putU us z.i n zz.at_), z3.set _ _, hT1, by simp, fun i j hi' hj => ?_⟩, fun z4 hz4 => ⟨⟨by omega, by omega⟩, us.set z.i (putU us z.i n zz.at_), z4, z.f, ⟨?_, ⟨by simp, hz4⟩, ⟨rfl, fun _ _ _ _ => avM_refl _⟩, ⟨rfl, fun j _ => ?_⟩, ?_⟩, fun f' st' ⟨g1, g2⟩ => ?_⟩⟩
            · rw [getD_setU _ hi']
              by_cases e : i = z.i
              · rw [if_pos ⟨e, hj⟩, if_pos e]
                exact putRow _ _ _ hj
              · rw [if_neg fun h => e h.1, if_neg e]
                exact avM_refl _
            · rw [costU_set hi hw]; exact Wk.refl _
            · rw [usedN_set (v := putU us z.i n zz.at_) hi rfl]; exact avM_refl _
            · have := f4.put hi hat
              exact ⟨by omega, by omega, by omega, by rw [show ((n : Int) + 1).toNat = n + 1 by omega]; exact this⟩
            · rw [show ((n : Int) + 1).toNat = n + 1 by omega] at g1
              have hst := headU.back hi g2
              refine ⟨⟨by omega, by rw [List.length_set]; exact hlt⟩, ⟨by omega, by omega⟩, ⟨z.i + 1, f', st'.set z.i (us.getD z.i u0)⟩, ⟨⟨⟨by show z.i + 1 ≤ _; omega, ?_, hst⟩, by show us.length - (z.i + 1) < _; omega⟩, rfl⟩, ⟨⟨⟨⟨⟨by simp, costU_set hi hw⟩, rfl⟩, rfl⟩, avM_refl _⟩, fun i j _ _ => by rw [usedN_set (v := putU us z.i n zz.at_) hi rfl]⟩, by simp, fun i j hi' hj => ?_⟩
              · show f' = addF A B k fuel n us f (z.i + 1)
                rw [addF_succ, hw, g1, z2]
              · show avM _ (Enc.enc ((st'.set z.i (us.getD z.i u0)).getD i u0) j)
                rw [getD_setU _ hi']
                by_cases e : i = z.i
                · rw [if_pos ⟨e, hj⟩, if_pos e]
                  exact avM_refl _
                · rw [if_neg fun h => e h.1, if_neg e]
                  exact avM_refl _
      · have e : z.i = us.length := by omega
        exact ⟨⟨z.f, z.st⟩, ⟨by rw [z2, e], z3⟩, ⟨⟨⟨rfl, rfl⟩, avM_refl _⟩, hT1⟩, rfl, fun _ _ _ _ => avM_refl _⟩
      · have hi : z'.i < B.length := by omega
        have hbm := barE_gaps (hB _ (getD_memB hi))
        have hc := hbm.2.2.2.2.2.2.2.2
        have hun := usedN_len us (z'.i : Int)
        refine ⟨⟨⟨by omega, hlt⟩, B.getD z'.i b0, rfl, ⟨hT1, hT _⟩, ⟨⟨⟨⟨rfl, rfl⟩, rfl⟩, rfl⟩, rfl⟩, avM_refl _⟩, fun b hb' => ?_⟩
        obtain rfl := hb'
        refine ⟨⟨by omega, by omega⟩, fun _ => ⟨by omega, hlt⟩, ?_⟩
        have hbar : barAt B ⟨(z'.i : Int), [], []⟩ = B.getD z'.i b0 := by unfold barAt; simp
        have go : z'.f = freF A B k fuel n us (addF A B k fuel n us f us.length) (z'.i + 1) → (inK .i64 ((z'.i : Int) + 1) ∧ ∃ z2 : LoS, (((z2.i ≤ B.length ∧ z2.f = freF A B k fuel n us (addF A B k fuel n us f us.length) z2.i ∧ headU us z2.st) ∧ B.length - z2.i < B.length - z'.i) ∧ (z'.i : Int) + 1 = z2.i) ∧
            (((z'.f.found = z2.f.found ∧ z'.f.least = z2.f.least) ∧ avM (AV.xl false 3 z'.f.best.length fun i j => Enc.enc (z'.f.best.getD i u0) j) (AV.xl false 3 z2.f.best.length fun i j => Enc.enc (z2.f.best.getD i u0) j)) ∧ ∀ i j : Nat, i < B.length → j < 1 → True) ∧
            z2.st.length = z'.st.length ∧ ∀ i j : Nat, i < z'.st.length → j < 3 → avM (Enc.enc (z'.st.getD i u0) j) (Enc.enc (z2.st.getD i u0) j)) := fun hw =>
          ⟨⟨by omega, by omega⟩, ⟨z'.i + 1, z'.f, z'.st⟩, ⟨⟨⟨by show z'.i + 1 ≤ _; omega, hw, y3⟩, by show B.length - (z'.i + 1) < _; omega⟩, rfl⟩, ⟨⟨⟨rfl, rfl⟩, avM_refl _⟩, hT1⟩, rfl, fun _ _ _ _ => avM_refl _⟩
        have skip : freshU A B k us n z'.i = none → z'.f = freF A B k fuel n us (addF A B k fuel n us f us.length) (z'.i + 1) := fun hw => by
          rw [freF_succ, hw]; exact y2
        cases hsec : sectB (A.getD n c0) (B.getD z'.i b0) with
        | false =>
          simp only [Bool.not_false, Bool.true_or, vc_tt]
          refine go (skip ?_)
          unfold freshU withU
          rw [hbar, hsec, Bool.false_and]
          cases freeB B us z'.i <;> rfl
        | true =>
          simp only [Bool.not_true, Bool.false_or, vc_le]
          refine ⟨fun hle => go (skip ?_), fun hlt2 => ⟨⟨?_, ⟨fitsAt (B.getD z'.i b0) (lensL A [(n : Int)]) k, fitsOk (B.getD z'.i b0) (lensL A [(n : Int)]) k⟩, ⟨⟨by rw [hbar]; rfl, by rw [hbar]; rfl⟩, avM_refl _, rfl⟩, hT1, hT _⟩, fun zz ⟨p1, p2⟩ => ?_⟩⟩
          · unfold freshU freeB
            rw [show ltB (usedN us (z'.i : Int) : Int) (B.getD z'.i b0).n = false by rw [Bool.eq_false_iff]; intro h; rw [ltB_iff] at h; omega]
            rfl
          · rw [Bool.and_eq_true]
            refine ⟨List.all_eq_true.2 fun p hp => ?_, rfl⟩
            rw [List.mem_singleton] at hp
            rw [Bool.and_eq_true, leB_iff, ltB_iff]
            omega
          have hfree : freeB B us z'.i = true := by unfold freeB; rw [ltB_iff]; omega
          rw [hbar] at p1 p2
          simp only [List.nil_append] at p1 p2
          cases hok : zz.is with
          | false =>
            simp only [vc_ff]
            refine go (skip ?_)
            unfold freshU withU
            rw [hfree, hbar, hsec]
            simp only [List.nil_append]
            rw [← p1, hok]
            rfl
          | true =>
            simp only [vc_tt]
            have hw : freshU A B k us n z'.i = some ⟨(z'.i : Int), [(n : Int)], zz.at_⟩ := by
              unfold freshU withU
              rw [hfree, hbar, hsec]
              simp only [List.nil_append]
              rw [← p1, hok, p2]
              rfl
            have hat : zz.at_.length = 1 := by
              rw [p2, fitsAt_len (by rw [← p1, hok])]
              rfl
            have hN : ∀ i : Nat, (usedN (us ++ [⟨(z'.i : Int), [(n : Int)], zz.at_⟩]) (i : Int) : Int) = usedN us (i : Int) + if i = z'.i then 1 else 0 := fun i => by
              rw [usedN_app]
              by_cases e : i = z'.i
              · rw [if_pos (by rw [e]), if_pos e]; rfl
              · rw [if_neg (show ¬ ((z'.i : Int) = (i : Int)) by omega), if_neg e]; rfl
            have hC : costU B (us ++ [⟨(z'.i : Int), [(n : Int)], zz.at_⟩]) = costU B us + (B.getD z'.i b0).c := by
              rw [costU_append]; unfold barAt; simp
            refine ⟨⟨by omega, ⟨by omega, hlt⟩, ⟨by omega, by omega⟩, ⟨by omega, hlt⟩, (), fun i j hi' hj => ?_, fun i j hi' hj => ?_⟩, fun _ _ => ⟨⟨by omega, hlt⟩, ⟨by omega, by omega⟩, ⟨by omega, by omega⟩, us ++ [⟨(z'.i : Int), [(n : Int)], zz.at_⟩], us ++ [⟨(z'.i : Int), [(n : Int)], zz.at_⟩], z'.f,
              ⟨?_, ⟨by simp, headU.refl _⟩, ⟨by simp, fun _ _ _ _ => avM_refl _⟩, ⟨rfl, fun j _ => avM_refl _⟩, ?_⟩, fun f' st' ⟨g1, g2⟩ => ?_⟩⟩
            · rw [hN]
              by_cases e : i = z'.i
              · rw [if_pos ⟨e, hj⟩, if_pos e, e]; exact avM_refl _
              · rw [if_neg fun h => e h.1, if_neg e, Int.add_zero]; exact avM_refl _
            · split
              · rename_i h
                rw [getD_app_left _ _ h, y3.at h]; exact avM_refl _
              · rename_i h
                rw [getD_app_last _ _ h hi']; exact newRow _ _ _ hj
            · rw [hC]; exact Wk.refl _
            · have := f4.new hi hat
              exact ⟨by omega, by omega, by omega, by rw [show ((n : Int) + 1).toNat = n + 1 by omega]; exact this⟩
            · rw [show ((n : Int) + 1).toNat = n + 1 by omega] at g1
              have hL : (us ++ [(⟨(z'.i : Int), [(n : Int)], zz.at_⟩ : Used)]).length = us.length + 1 := by simp
              rw [hL, hC, hN, if_pos rfl]
              refine ⟨⟨by omega, hlt⟩, ⟨by omega, by omega⟩, ⟨by omega, hlt⟩, ⟨by omega, by omega⟩, ⟨by omega, hlt⟩, ⟨by omega, by omega⟩, ⟨by omega, by omega⟩, ⟨by omega, by omega⟩, ⟨z'.i + 1, f', st'⟩, ⟨⟨⟨by show z'.i + 1 ≤ _; omega, ?_, g2.app⟩, by show B.length - (z'.i + 1) < _; omega⟩, rfl⟩, ⟨⟨⟨⟨⟨by omega, by omega⟩, rfl⟩, rfl⟩, avM_refl _⟩, fun i j hi' hj => ?_⟩, rfl, fun _ _ _ _ => avM_refl _⟩
              · show f' = freF A B k fuel n us (addF A B k fuel n us f us.length) (z'.i + 1)
                rw [freF_succ, hw, g1, y2]
              · rw [hN]
                by_cases e : i = z'.i
                · rw [if_pos ⟨e, hj⟩, e]
                  refine avM_of_eq ?_
                  congr 2
                  omega
                · rw [if_neg fun h => e h.1, if_neg e, Int.add_zero]; exact avM_refl _
      · have e : z'.i = B.length := by omega
        exact ⟨⟨z'.f, z'.st⟩, ⟨by rw [y2, e, hfr], y3⟩, ⟨⟨⟨rfl, rfl⟩, avM_refl _⟩, hT1⟩, rfl, fun _ _ _ _ => avM_refl _⟩
end Go.Tz
