/- stock.Fits. -/
import Derived.Test.YtojonobehnbeiaaGreatDoorTzV
set_option linter.unusedSimpArgs false
namespace Go.Tz
open Go Go.Sx Go.Proofs
set_option maxRecDepth 100000
set_option maxHeartbeats 2000000
theorem check_C (b : Bar) : PureCall Tryz.prog [] 71 [agE b] (.i (barE b)) :=
  pure_of_vc mixed Tck_sound (Eq.mp (by kernel_rfl) (check_vc b) : vcFn Tryz.prog Tck 71 (check_an b) [agE b] (.i (barE b)))
def Tke (b : Bar) : Tb := Tck.plus 71 (inst [agE b] (.i (barE b)))
theorem Tke_sound (b : Bar) : TbSound Tryz.prog (Tke b) := TbSound.plus Tck_sound (inst_T (check_C b))
theorem checkKerf_vc (b : Bar) (k : Int) : bndL [AV.agg 6 (Enc.enc b), AV.v (Value.int .i64 k)] → Wk [AV.agg 6 fun (i : Nat) => Enc.enc b (0 + i)] [AV.agg 6 (Enc.enc b)] ∧ bsplit (barE b != (0 : Int)) (IntKind.i64 = .i64 ∧ (1 : Int) = kerfE b k) (bsplit (!(leB (0 : Int) k && leB k (100 : Int))) (IntKind.i64 = .i64 ∧ (2 : Int) = kerfE b k) (IntKind.i64 = .i64 ∧ (0 : Int) = kerfE b k)) := by
  intro _
  simp only [Nat.zero_add, Wk.refl, true_and]
  unfold kerfE between
  simp only [bsplit_iff]
  grind
theorem checkKerf_C (b : Bar) (k : Int) : PureCall Tryz.prog [] 108 [agE b, .i k] (.i (kerfE b k)) :=
  pure_of_vc mixed (Tke_sound b) (Eq.mp (by kernel_rfl) (checkKerf_vc b k) : vcFn Tryz.prog (Tke b) 108 .auto [agE b, .i k] (.i (kerfE b k)))
theorem fitsP_vc (n : Int) : bndL [AV.v (Value.int .i64 n)] → (!(leB (1 : Int) n && leB n (65536 : Int))) = lenOut n := by
  intro _
  rfl
def fitsP_t : List AV → Option (List Cond × AV)
  | [.v (.int .i64 n)] => some ([], .b (lenOut n))
  | _ => none
theorem fitsP_T : PureT Tryz.prog [] 109 fitsP_t := by
  intro xs ps r h _
  unfold fitsP_t at h
  split at h
  · rename_i n
    cases h
    exact pure_of_vc mixed Tck_sound (Eq.mp (by kernel_rfl) (fitsP_vc n) : vcFn Tryz.prog Tck 109 .auto [.i n] (.b (lenOut n)))
  · cases h
theorem idxL_vc (l : List Int) :
 let q1 := (AV.xl false 1 (l.length) fun i j => AV.v (Value.int .i64 (List.getD l i Enc.dflt))); let q2 := (AV.fn (Fn.func (109 : FuncId)) 0 (fun (x : Nat) => AV.junk) 0 fun (x : Nat) => AV.junk); let q3 := (IntKind.i64 = .i64 ∧ (l.length : Int) = (l.length : Int)); bndL [AV.xl false 1 (l.length) fun i j => AV.v (Value.int .i64 (List.getD l i Enc.dflt)), AV.fn (Fn.func (109 : FuncId)) 0 (fun (x : Nat) => AV.junk) 0 fun (x : Nat) => AV.junk] → (∃ (z : Nat), ((z ≤ l.length ∧ idxF lenOut (List.drop z l) z = idxF lenOut l 0) ∧ avM q1 q1 ∧ avM q2 q2 ∧ avM q1 q1 ∧ q3 ∧ IntKind.i64 = .i64 ∧ (0 : Int) =
 (z : Int)) ∧ True) ∧ ∀ (z : Nat), z ≤ l.length ∧ idxF lenOut (List.drop z l) z = idxF lenOut l 0 → bsplit (ltB (z : Int) (l.length : Int)) (bsplit (DB.db ((0 : Int) ≤ (z : Int) ∧ (z : Int) < (l.length : Int))) (bsplit (lenOut (List.getD l (Int.toNat (z : Int)) Enc.dflt)) (IntKind.i64 = .i64 ∧ (z : Int) = idxF lenOut l 0) (bsplit (DB.db (inK .i64 ((z : Int) + (1 : Int)))) (∃ (z' : Nat), (((z' ≤ l.length ∧ idxF lenOut (List.drop z' l) z' = idxF lenOut l 0) ∧ l.length - z' < l.length - z) ∧ avM q1 q1 ∧ avM q2 q2 ∧ avM q1 q1 ∧ q3 ∧ IntKind.i64 = .i64 ∧ (z : Int) + (1 : Int) = (z' : Int)) ∧ True)
 False)) False) (IntKind.i64 = .i64 ∧ (-1 : Int) = idxF lenOut l 0) := by
  dsimp only
  intro hb
  have hl : l.length ≤ 9223372036854775807 := hb.1.1
  simp only [avM_refl, true_and, and_true, Int.toNat_natCast, vc_lt]
  refine ⟨⟨0, by simp⟩, fun z ⟨h1, h2⟩ => ⟨fun hz => vc_db.2 ⟨by omega, (bsplit_iff (t := lenOut (l.getD z Enc.dflt))).2 ⟨fun hp => ?_, fun hp => ?_⟩⟩, fun hz => ?_⟩⟩
  · rw [getD_drop (d := Enc.dflt) (by omega), idxF, hp] at h2; exact h2
  · rw [getD_drop (d := Enc.dflt) (by omega), idxF, hp] at h2
    refine vc_db.2 ⟨by simp only [inK]; omega, z + 1, ⟨⟨by omega, h2⟩, by omega⟩, by omega⟩
  · rw [show z = l.length by omega, List.drop_length] at h2; exact h2
theorem idxL_C (l : List Int) : PureCall Tryz.prog [] 82 [slE l, fn0 109] (.i (idxF lenOut l 0)) :=
  pure_of_vc mixed (TbSound.plus tb0_sound fitsP_T) (Eq.mp (by kernel_rfl) (idxL_vc l) : vcFn Tryz.prog (T0.plus 109 fitsP_t) 82 (idx_an l lenOut) [slE l, fn0 109] (.i (idxF lenOut l 0)))
theorem conL_vc (l : List Int) : bndL [AV.xl false 1 (l.length) fun i j => AV.v (Value.int .i64 (List.getD l i Enc.dflt)), AV.fn (Fn.func (109 : FuncId)) 0 (fun (x : Nat) => AV.junk) 0 fun (x : Nat) => AV.junk] → Wk [AV.xl false 1 (l.length) fun i j => AV.v (Value.int .i64 (List.getD l i Enc.dflt)), AV.fn (Fn.func (109 : FuncId)) 0 (fun (x : Nat) => AV.junk) 0 fun (x : Nat) => AV.junk] [AV.xl false 1 (l.length) fun i j => AV.v (Value.int .i64 (List.getD l i Enc.dflt)), AV.fn (Fn.func (109 : FuncId)) 0 (fun (x : Nat) => AV.junk) 0 fun (x : Nat) => AV.junk] ∧ leB (0 : Int) (idxF lenOut l 0) =
 List.any l lenOut := by
  intro hb
  exact ⟨Wk.refl _, idxF_any _ _ _⟩
theorem conL_C (l : List Int) : PureCall Tryz.prog [] 45 [slE l, fn0 109] (.b (l.any lenOut)) :=
  pure_of_vc mixed (TbSound.plus tb0_sound (inst_T (idxL_C l))) (Eq.mp (by kernel_rfl) (conL_vc l) : vcFn Tryz.prog (T0.plus 82 (inst [slE l, fn0 109] (.i (idxF lenOut l 0)))) 45 .auto [slE l, fn0 109] (.b (l.any lenOut)))
noncomputable def TFi (b : Bar) (ls : List Int) (k : Int) : Tb :=
  (((T0.plus 108 (inst [agE b, .i k] (.i (kerfE b k)))).plus 45 (inst [slE ls, fn0 109] (.b (ls.any lenOut)))).plusF 123 (clone_t 107 2 16)).body Tryz.prog [(110, .auto)]
structure FSt where
  i : Nat
  fr : Int
  out : List Int
structure FIn where
  at_ : Int
  out : List Int
def iAr_ (l : List Int) : OB := .arr 3 1 l.length fun i _ => .i (l.getD i 0)
def gAr_ (l : List Gap) : OB := .arr 107 2 l.length fun i j => Enc.enc (l.getD i Enc.dflt) j
def fits_it (b : Bar) (ls : List Int) (k : Int) : Ann :=
  .two .auto (.join Unit (fun σ _ => [(0, σ.tm 0), (1, σ.tm 1), (3, .i 0), (15, .ns σ.nb 0 (gapsOf b).length), (16, .i (gapsOf b).length), (17, .i 0)])
    (fun σ _ => [(σ.nb, gArr (gapsOf b))]) 1 (fun _ _ => True) .auto
   (.one (.loop FSt (fun σ z => [(0, σ.tm 0), (1, σ.tm 1), (3, .i z.fr), (15, σ.tm 15), (16, σ.tm 16), (17, .i z.i)])
    (fun σ z => [(3, .box 48 1 fun _ => .ns σ.nb 0 z.out.length), (σ.nb, iArr z.out)]) 1
    (fun _ z => z.i ≤ (gapsOf b).length ∧ 0 ≤ z.fr ∧ z.fr ≤ 65536 ∧ z.out.length ≤ ls.length ∧ fitsS k z.fr ((gapsOf b).drop z.i) z.out (ls.drop z.out.length) = fitsR b ls k)
    (fun _ z => (gapsOf b).length - z.i) .auto)))
def fits_bd (ls : List Int) (k : Int) : Ann :=
  .one (.two .auto (.one (.loop FIn (fun σ z => [(3, σ.tm 3), (4, σ.tm 4), (5, σ.tm 5), (10, σ.tm 10), (11, σ.tm 11), (12, .i z.at_)])
    (fun σ z => [(3, .box 48 1 fun _ => .ns σ.nb 0 z.out.length), (blkAt (boxAt σ 10 0), .dead), (σ.nb, iArr z.out)]) 1
    (fun σ z => 0 ≤ z.at_ ∧ z.at_ ≤ 65636 ∧ z.out.length ≤ ls.length ∧
      fillS k (AV.int (boxAt σ 11 1)) z.at_ z.out (ls.drop z.out.length) = fillS k (AV.int (boxAt σ 11 1)) (AV.int (σ.tm 12)) (listOf (lenAt σ (boxAt σ 10 0)) fun i => AV.int (elsAt σ (boxAt σ 10 0) i 0)) (ls.drop (lenAt σ (boxAt σ 10 0))))
    (fun _ z => ls.length - z.out.length) .auto)))
def fits_an (b : Bar) (ls : List Int) (k : Int) : Ann :=
  .two .auto (.two .auto (.two .auto (.two .auto (.two .auto (.two (.two .auto (.one (.range (fits_it b ls k) .auto (fits_bd ls k)))) .auto)))))
theorem fits_vc (b : Bar) (ls : List Int) (k : Int) :
 let q1 := ((True ∧ Value.slice (Non Addr) 0 0 = Value.slice (Non Addr) 0 0 ∧ List.length (fitsAt b ls k) = 0) ∧ false = fitsOk b ls k); let q2 := (DB.db (List.length (Bar.gs b) * 16 ≤ 140737488355328)); let q3 := (DB.db ((List.length (Bar.gs b) + 1) * 16 ≤ 140737488355328)); let q5 := (True ∧ nat_lit 5 = 5 ∧ (nat_lit 4 = 4 ∧ 0 = 0) ∧ (IntKind.i64 = .i64 ∧ (0 : Int) = (0 : Int)) ∧ (nat_lit 6 = 6 ∧ 0 = 0 ∧ List.length (gapsOf b) = List.length (Bar.gs b) + 1) ∧ (IntKind.i64 = .i64 ∧ (↑(List.length (Bar.gs b) + 1) : Int) = (↑(List.length (gapsOf b)) : Int)) ∧ IntKind.i64 = .i64 ∧ (0 : Int) = (0 :
 Int)); let q8 := (((((IntKind.i64 = .i64 ∧ Bar.w b = Bar.w b) ∧ IntKind.i64 = .i64 ∧ Bar.d b = Bar.d b) ∧ IntKind.i64 = .i64 ∧ Bar.l b = Bar.l b) ∧ IntKind.i64 = .i64 ∧ Bar.n b = Bar.n b) ∧ IntKind.i64 = .i64 ∧ Bar.c b = Bar.c b); let q7 := (((26 = 26 ∧ 6 = 6 ∧ q8 ∧ avM (slX 2 (Bar.gs b)) (slX 2 (Bar.gs b))) ∧ 48 = 48 ∧ 1 = 1 ∧ (false = true → false = true) ∧ 1 = 1 ∧ ls.length = ls.length ∧ ∀ (i j : Nat), i < ls.length → j < 1 → IntKind.i64 = .i64 ∧ List.getD ls i Enc.dflt = List.getD ls i Enc.dflt) ∧ 3 = 3 ∧ 1 = 1 ∧ IntKind.i64 = .i64 ∧ k = k); let q6 := (((q7 ∧ 48 = 48 ∧ 1 = 1 ∧ Value.slice
 (Non Addr) 0 0 = Array.getD (Value.cells (Value.slice (Non Addr) 0 0)) 0 undef) ∧ 26 = 26 ∧ 6 = 6 ∧ q8 ∧ avM (slX 2 (Bar.gs b)) (slX 2 (Bar.gs b))) ∧ LoopState.ready = LoopState.ready ∧ Non Code = Non Code); let q4 := (∃ (z : Unit), q5 ∧ q6 ∧ (107 : TypeId) = 107 ∧ 2 = 2 ∧ List.length (gapsOf b) = List.length (Bar.gs b) + 1 ∧ ∀ (i j : Nat), i < List.length (Bar.gs b) + 1 → j < 2 → avM (if i < List.length (Bar.gs b) then Enc.enc (List.getD (Bar.gs b) i Enc.dflt) j else Sx.rowAt [listFn [AV.v (Value.int .i64 (Bar.l b)), AV.v (Value.int .i64 (Bar.l b))]] (i - List.length (Bar.gs b)) j) (Enc.enc
 (List.getD (gapsOf b) i Enc.dflt) j)); let q9 := (nat_lit 6 = 6 ∧ 0 = 0 ∧ List.length (gapsOf b) = List.length (gapsOf b)); let q10 := (IntKind.i64 = .i64 ∧ (↑(List.length (gapsOf b)) : Int) = (↑(List.length (gapsOf b)) : Int)); let q30 := (AV.xl false 2 (List.length (Bar.gs b)) fun i j => Enc.enc (List.getD (Bar.gs b) i Enc.dflt) j); let q33 := (3 = List.length [AV.v (Value.slice (Non Addr) 0 0), AV.v (Value.bool false), AV.v (Value.int .i64 (0 : Int))] ∧ q1 ∧ IntKind.i64 = .i64 ∧ (0 : Int) = fitsE b ls k); bndL [AV.agg 6 (Enc.enc b), slN ls, AV.v (Value.int .i64 k)] → Wk [AV.agg 6 fun (i :
 Nat) => Enc.enc b (0 + i), AV.v (Value.int .i64 k)] [AV.agg 6 (Enc.enc b), AV.v (Value.int .i64 k)] ∧ bsplit (kerfE b k != (0 : Int)) (3 = List.length [AV.v (Value.slice (Non Addr) 0 0), AV.v (Value.bool false), AV.v (Value.int .i64 (kerfE b k))] ∧ q1 ∧ IntKind.i64 = .i64 ∧ kerfE b k = fitsE b ls k) (bsplit (ltB (64 : Int) (ls.length : Int)) (3 = List.length [AV.v (Value.slice (Non Addr) 0 0), AV.v (Value.bool false), AV.v (Value.int .i64 (4 : Int))] ∧ q1 ∧ IntKind.i64 = .i64 ∧ (4 : Int) = fitsE b ls k) (Wk [slN ls, AV.fn (Fn.func 109) 0 (fun (x : Nat) => AV.junk) 0 fun (x : Nat) => AV.junk]
 [slN ls, AV.fn (Fn.func (109 : FuncId)) 0 (fun (x : Nat) => AV.junk) 0 fun (x : Nat) => AV.junk] ∧ bsplit (List.any ls lenOut) (3 = List.length [AV.v (Value.slice (Non Addr) 0 0), AV.v (Value.bool false), AV.v (Value.int .i64 (2 : Int))] ∧ q1 ∧ IntKind.i64 = .i64 ∧ (2 : Int) = fitsE b ls k) ((bsplit q2 (bsplit q3 (q4 ∧ ∃ (z : Unit), q5 ∧ q6 ∧ (107 : TypeId) = 107 ∧ 2 = 2 ∧ List.length (gapsOf b) = List.length (Bar.gs b) + 1 ∧ ∀ (i j : Nat), i < List.length (Bar.gs b) + 1 → j < 2 → avM (if i < List.length (Bar.gs b) then Enc.enc (List.getD (Bar.gs b) i Enc.dflt) j else Sx.rowAt [listFn [AV.v
 (Value.int .i64 (Bar.l b)), AV.v (Value.int .i64 (Bar.l b))]] (i - List.length (Bar.gs b)) j) (Enc.enc (List.getD (gapsOf b) i Enc.dflt) j)) False ∧ bsplit q3 q4 False) False ∧ bsplit q2 (bsplit q3 q4 False) False) ∧ ∀ (z : Unit), True → (∃ (z : FSt), ((FSt.i z ≤ List.length (gapsOf b) ∧ (0 : Int) ≤ FSt.fr z ∧ FSt.fr z ≤ (65536 : Int) ∧ List.length (FSt.out z) ≤ ls.length ∧ fitsS k (FSt.fr z) (List.drop (FSt.i z) (gapsOf b)) (FSt.out z) (List.drop (List.length (FSt.out z)) ls) = fitsR b ls k) ∧ nat_lit 5 = 5 ∧ (nat_lit 4 = 4 ∧ 0 = 0) ∧ (IntKind.i64 = .i64 ∧ (0 : Int) = FSt.fr z) ∧ q9 ∧ q10 ∧
 IntKind.i64 = .i64 ∧ (0 : Int) = (↑(FSt.i z) : Int)) ∧ ((((q7 ∧ (48 : TypeId) = 48 ∧ 1 = 1 ∧ some (Non Nat) = some (Non Nat) ∧ 0 = 0 ∧ List.length (FSt.out z) = 0) ∧ 26 = 26 ∧ 6 = 6 ∧ q8 ∧ avM (slX 2 (Bar.gs b)) (slX 2 (Bar.gs b))) ∧ LoopState.ready = LoopState.ready ∧ Non Code = Non Code) ∧ 107 = 107 ∧ 2 = 2 ∧ List.length (gapsOf b) = List.length (gapsOf b) ∧ ∀ (i j : Nat), let q11 := (Enc.enc (List.getD (gapsOf b) i Enc.dflt) j); i < List.length (gapsOf b) → j < 2 → avM q11 q11) ∧ List.length (FSt.out z) = 0) ∧ ∀ (z : FSt), let q12 := (List.drop (List.length (FSt.out z)) ls); let q16 :=
 (List.getD (gapsOf b) (0 + Int.toNat (↑(FSt.i z) : Int)) Enc.dflt); let q15 := (Gap.a q16); let q14 := (ltB (FSt.fr z) q15); let q13 := (!bsel true q14 || bsel true q14); let q17 := (bsel true q14); let q18 := (AV.int (AV.v (Value.int .i64 q15))); let q19 := (AV.int (AV.v (Value.int .i64 (FSt.fr z)))); let q20 := (listOf (List.length (FSt.out z)) fun (i : Nat) => AV.int (AV.v (Value.int .i64 (List.getD (FSt.out z) (0 + i) (0 : Int))))); let q22 := (IntKind.i64 = .i64 ∧ Gap.a q16 = Gap.a q16); let q23 := (IntKind.i64 = .i64 ∧ FSt.fr z = FSt.fr z); let q32 := (!ltB (FSt.fr z) q15 || bsel true
 q14); let q34 := (DB.db (inK .i64 ((↑(FSt.i z) : Int) + (1 : Int)))); let q36 := (bsplit (ltB (↑(List.length (FSt.out z)) : Int) (ls.length : Int)) q33 (3 = List.length [AV.xl false 1 (List.length (FSt.out z)) fun i j => AV.v (Value.int .i64 (List.getD (FSt.out z) (0 + i) (0 : Int))), AV.v (Value.bool true), AV.v (Value.int .i64 (0 : Int))] ∧ ((True ∧ avM (AV.xl false 1 (List.length (FSt.out z)) fun i j => AV.v (Value.int .i64 (List.getD (FSt.out z) (0 + i) (0 : Int)))) (slN (fitsAt b ls k))) ∧ true = fitsOk b ls k) ∧ IntKind.i64 = .i64 ∧ (0 : Int) = fitsE b ls k)); FSt.i z ≤ List.length
 (gapsOf b) ∧ (0 : Int) ≤ FSt.fr z ∧ FSt.fr z ≤ (65536 : Int) ∧ List.length (FSt.out z) ≤ ls.length ∧ fitsS k (FSt.fr z) (List.drop (FSt.i z) (gapsOf b)) (FSt.out z) q12 = fitsR b ls k → bsplit (ltB (↑(FSt.i z) : Int) (↑(List.length (gapsOf b)) : Int)) (bsplit (DB.db ((0 : Int) ≤ (↑(FSt.i z) : Int) ∧ (↑(FSt.i z) : Int) < (↑(List.length (gapsOf b)) : Int))) (bsplit q13 (bsplit q13 (bsplit q13 (bsplit q17 (bsplit q17 (bsplit q17 ((∃ (z_1 : FIn), (((0 : Int) ≤ FIn.at_ z_1 ∧ FIn.at_ z_1 ≤ (65636 : Int) ∧ List.length (FIn.out z_1) ≤ ls.length ∧ fillS k q18 (FIn.at_ z_1) (FIn.out z_1) (List.drop
 (List.length (FIn.out z_1)) ls) = fillS k q18 q19 q20 q12) ∧ (nat_lit 0 = 0 ∧ 0 = 0) ∧ (nat_lit 1 = 1 ∧ 0 = 0) ∧ (nat_lit 2 = 2 ∧ 0 = 0) ∧ (nat_lit 3 = 3 ∧ 0 = 0) ∧ (nat_lit 9 = 9 ∧ 0 = 0) ∧ IntKind.i64 = .i64 ∧ FSt.fr z = FIn.at_ z_1) ∧ (((((((q7 ∧ 48 = 48 ∧ 1 = 1 ∧ nat_lit 10 = 10 ∧ 0 = 0 ∧ List.length (FIn.out z_1) = List.length (FSt.out z)) ∧ 26 = 26 ∧ 6 = 6 ∧ q8 ∧ avM (slX 2 (Bar.gs b)) (slX 2 (Bar.gs b))) ∧ LoopState.busy = LoopState.busy ∧ Non Code = Non Code) ∧ 107 = 107 ∧ 2 = 2 ∧ List.length (gapsOf b) = List.length (gapsOf b) ∧ ∀ (i j : Nat), let q21 := (Enc.enc (List.getD (gapsOf b)
 i Enc.dflt) j); i < List.length (gapsOf b) → j < 2 → avM q21 q21) ∧ True) ∧ 107 = 107 ∧ 2 = 2 ∧ q22 ∧ IntKind.i64 = .i64 ∧ Gap.b q16 = Gap.b q16) ∧ 107 = 107 ∧ 2 = 2 ∧ q23 ∧ IntKind.i64 = .i64 ∧ Gap.a q16 = Gap.a q16) ∧ 3 = 3 ∧ 1 = 1 ∧ List.length (FIn.out z_1) = List.length (FSt.out z) ∧ ∀ (i j : Nat), i < List.length (FSt.out z) → j < 1 → IntKind.i64 = .i64 ∧ List.getD (FSt.out z) i (0 : Int) = List.getD (FIn.out z_1) i (0 : Int)) ∧ ∀ (z_1 : FIn), let q25 := (ltB (↑(List.length (FIn.out z_1)) : Int) (ls.length : Int)); let q24 := (!bsel true q25 || bsel true q25); let q26 := ((0 : Int) ≤
 (↑(List.length (FIn.out z_1)) : Int) ∧ (↑(List.length (FIn.out z_1)) : Int) < (ls.length : Int)); let q28 := (Int.toNat (↑(List.length (FIn.out z_1)) : Int)); let q27 := (FIn.at_ z_1 + List.getD ls q28 Enc.dflt); let q29 := (List.getD ls q28 Enc.dflt + k); (0 : Int) ≤ FIn.at_ z_1 ∧ FIn.at_ z_1 ≤ (65636 : Int) ∧ List.length (FIn.out z_1) ≤ ls.length ∧ fillS k q18 (FIn.at_ z_1) (FIn.out z_1) (List.drop (List.length (FIn.out z_1)) ls) = fillS k q18 q19 q20 q12 → bsplit q24 (bsplit q24 (bsplit q24 (bsplit (!bsel true q25 || DB.db q26) (bsplit q24 (bsplit q24 (bsplit q24 (bsplit (!bsel true q25 ||
 DB.db (inK .i64 q27)) (bsplit q24 (bsplit q24 (bsplit q24 (bsplit (!ltB (↑(List.length (FIn.out z_1)) : Int) (ls.length : Int) || bsel true q25) (bsplit (bif ltB (↑(List.length (FIn.out z_1)) : Int) (ls.length : Int) then leB q27 q15 else false) (bsplit (DB.db q26) (bsplit (DB.db ((List.length (FIn.out z_1) + 1) * 8 ≤ 140737488355328)) (bsplit (DB.db (inK .i64 q29)) (bsplit (DB.db (inK .i64 (FIn.at_ z_1 + q29))) (∃ (z' : FIn), ((((0 : Int) ≤ FIn.at_ z' ∧ FIn.at_ z' ≤ (65636 : Int) ∧ List.length (FIn.out z') ≤ ls.length ∧ fillS k q18 (FIn.at_ z') (FIn.out z') (List.drop (List.length (FIn.out
 z')) ls) = fillS k q18 q19 q20 q12) ∧ ls.length - List.length (FIn.out z') < ls.length - List.length (FIn.out z_1)) ∧ (nat_lit 0 = 0 ∧ 0 = 0) ∧ (nat_lit 1 = 1 ∧ 0 = 0) ∧ (nat_lit 2 = 2 ∧ 0 = 0) ∧ (nat_lit 3 = 3 ∧ 0 = 0) ∧ (nat_lit 9 = 9 ∧ 0 = 0) ∧ IntKind.i64 = .i64 ∧ FIn.at_ z_1 + q29 = FIn.at_ z') ∧ ((((((((((26 = 26 ∧ 6 = 6 ∧ q8 ∧ avM q30 q30) ∧ 48 = 48 ∧ 1 = 1 ∧ (false = true → false = true) ∧ 1 = 1 ∧ ls.length = ls.length ∧ ∀ (i j : Nat), i < ls.length → j < 1 → IntKind.i64 = .i64 ∧ List.getD ls i Enc.dflt = List.getD ls i Enc.dflt) ∧ 3 = 3 ∧ 1 = 1 ∧ IntKind.i64 = .i64 ∧ k = k) ∧ 48 = 48 ∧
 1 = 1 ∧ nat_lit 10 = 10 ∧ 0 = 0 ∧ List.length (FIn.out z') = List.length (FIn.out z_1) + 1) ∧ 26 = 26 ∧ 6 = 6 ∧ q8 ∧ avM (slX 2 (Bar.gs b)) (slX 2 (Bar.gs b))) ∧ LoopState.busy = LoopState.busy ∧ Non Code = Non Code) ∧ 107 = 107 ∧ 2 = 2 ∧ List.length (gapsOf b) = List.length (gapsOf b) ∧ ∀ (i j : Nat), let q31 := (Enc.enc (List.getD (gapsOf b) i Enc.dflt) j); i < List.length (gapsOf b) → j < 2 → avM q31 q31) ∧ True) ∧ 107 = 107 ∧ 2 = 2 ∧ q22 ∧ IntKind.i64 = .i64 ∧ Gap.b q16 = Gap.b q16) ∧ 107 = 107 ∧ 2 = 2 ∧ q23 ∧ IntKind.i64 = .i64 ∧ Gap.a q16 = Gap.a q16) ∧ (3 : TypeId) = 3 ∧ 1 = 1 ∧
 List.length (FIn.out z') = List.length (FIn.out z_1) + 1 ∧ ∀ (i j : Nat), i < List.length (FIn.out z_1) + 1 → j < 1 → avM (if i < List.length (FIn.out z_1) then AV.v (Value.int .i64 (List.getD (FIn.out z_1) i (0 : Int))) else Sx.rowAt [fun (x : Nat) => AV.v (Value.int .i64 (FIn.at_ z_1))] (i - List.length (FIn.out z_1)) j) (AV.v (Value.int .i64 (List.getD (FIn.out z') i (0 : Int))))) False) False) False) False) (bsplit (!bsel true q14 || true) (bsplit q32 (bsplit (bif ltB (FSt.fr z) q15 then !Option.isNone (Non Code) else false) (bsplit q25 q33 (3 = List.length [AV.xl false 1 (List.length
 (FIn.out z_1)) fun i j => AV.v (Value.int .i64 (List.getD (FIn.out z_1) (0 + i) (0 : Int))), AV.v (Value.bool true), AV.v (Value.int .i64 (0 : Int))] ∧ ((True ∧ avM (AV.xl false 1 (List.length (FIn.out z_1)) fun i j => AV.v (Value.int .i64 (List.getD (FIn.out z_1) (0 + i) (0 : Int)))) (slN (fitsAt b ls k))) ∧ true = fitsOk b ls k) ∧ IntKind.i64 = .i64 ∧ (0 : Int) = fitsE b ls k)) (bsplit q34 (∃ (z' : FSt), (((FSt.i z' ≤ List.length (gapsOf b) ∧ (0 : Int) ≤ FSt.fr z' ∧ FSt.fr z' ≤ (65536 : Int) ∧ List.length (FSt.out z') ≤ ls.length ∧ fitsS k (FSt.fr z') (List.drop (FSt.i z') (gapsOf b))
 (FSt.out z') (List.drop (List.length (FSt.out z')) ls) = fitsR b ls k) ∧ List.length (gapsOf b) - FSt.i z' < List.length (gapsOf b) - FSt.i z) ∧ nat_lit 5 = 5 ∧ (nat_lit 4 = 4 ∧ 0 = 0) ∧ (IntKind.i64 = .i64 ∧ Gap.b q16 = FSt.fr z') ∧ q9 ∧ q10 ∧ IntKind.i64 = .i64 ∧ (↑(FSt.i z) : Int) + (1 : Int) = (↑(FSt.i z') : Int)) ∧ ((((q7 ∧ 48 = 48 ∧ 1 = 1 ∧ nat_lit 7 = 7 ∧ 0 = 0 ∧ List.length (FSt.out z') = List.length (FIn.out z_1)) ∧ 26 = 26 ∧ 6 = 6 ∧ q8 ∧ avM (slX 2 (Bar.gs b)) (slX 2 (Bar.gs b))) ∧ LoopState.ready = LoopState.ready ∧ Non Code = Non Code) ∧ 107 = 107 ∧ 2 = 2 ∧ List.length (gapsOf b) =
 List.length (gapsOf b) ∧ ∀ (i j : Nat), let q35 := (Enc.enc (List.getD (gapsOf b) i Enc.dflt) j); i < List.length (gapsOf b) → j < 2 → avM q35 q35) ∧ 3 = 3 ∧ 1 = 1 ∧ List.length (FSt.out z') = List.length (FIn.out z_1) ∧ ∀ (i j : Nat), i < List.length (FIn.out z_1) → j < 1 → IntKind.i64 = .i64 ∧ List.getD (FIn.out z_1) i (0 : Int) = List.getD (FSt.out z') i (0 : Int)) False)) False) False)) False) False) False) False) False) False) False) False) False) False) False) False) False) False) (bsplit (!bsel true q14 || false) (bsplit q32 (bsplit (bif ltB (FSt.fr z) q15 then !false else false) q36
 (bsplit q34 (∃ (z' : FSt), (((FSt.i z' ≤ List.length (gapsOf b) ∧ (0 : Int) ≤ FSt.fr z' ∧ FSt.fr z' ≤ (65536 : Int) ∧ List.length (FSt.out z') ≤ ls.length ∧ fitsS k (FSt.fr z') (List.drop (FSt.i z') (gapsOf b)) (FSt.out z') (List.drop (List.length (FSt.out z')) ls) = fitsR b ls k) ∧ List.length (gapsOf b) - FSt.i z' < List.length (gapsOf b) - FSt.i z) ∧ nat_lit 5 = 5 ∧ (nat_lit 4 = 4 ∧ 0 = 0) ∧ (IntKind.i64 = .i64 ∧ Gap.b q16 = FSt.fr z') ∧ q9 ∧ q10 ∧ IntKind.i64 = .i64 ∧ (↑(FSt.i z) : Int) + (1 : Int) = (↑(FSt.i z') : Int)) ∧ ((((q7 ∧ 48 = 48 ∧ 1 = 1 ∧ nat_lit 7 = 7 ∧ 0 = 0 ∧ List.length
 (FSt.out z') = List.length (FSt.out z)) ∧ 26 = 26 ∧ 6 = 6 ∧ q8 ∧ avM (slX 2 (Bar.gs b)) (slX 2 (Bar.gs b))) ∧ LoopState.ready = LoopState.ready ∧ Non Code = Non Code) ∧ 107 = 107 ∧ 2 = 2 ∧ List.length (gapsOf b) = List.length (gapsOf b) ∧ ∀ (i j : Nat), let q37 := (Enc.enc (List.getD (gapsOf b) i Enc.dflt) j); i < List.length (gapsOf b) → j < 2 → avM q37 q37) ∧ 3 = 3 ∧ 1 = 1 ∧ List.length (FSt.out z') = List.length (FSt.out z) ∧ ∀ (i j : Nat), i < List.length (FSt.out z) → j < 1 → IntKind.i64 = .i64 ∧ List.getD (FSt.out z) i (0 : Int) = List.getD (FSt.out z') i (0 : Int)) False)) False) False))
 False) False) False) False) q36))) := by
  dsimp only
  intro hb
  have e0 : (Enc.dflt : Int) = 0 := rfl
  have e1 : (Enc.dflt : Gap) = ⟨0, 0⟩ := rfl
  simp only [slX, slN, avM_refl, true_and, and_true, bsel_true, bsel_false, vc_own, bif_or, bif_and, vc_gdb, vc_db, vc_lt, vc_le, vc_ne, vc_eq, vc_tt, Int.toNat_natCast, Nat.zero_add, Nat.zero_le, Nat.sub_zero, agD_bar, agOk_bar, agD_bar', agOk_bar', agD_cut, agOk_cut, agD_cut', agOk_cut', agD_used, agOk_used, agD_used', agOk_used', int_i, Bool.or_true, cond_true, cond_false, e0, e1, listOf_getD]
  refine ⟨Wk.refl _, fun h => ?_, fun h => ⟨fun hlen => ?_, fun hlen => ⟨Wk.refl _, bsplit_iff.2 ⟨fun ho => ?_, fun ho => ?_⟩⟩⟩⟩
  · have e : fitsE b ls k = kerfE b k := by unfold fitsE; rw [bne_iff_ne.2 h]; rfl
    obtain ⟨h1, h2⟩ := fits_bad (b := b) (ls := ls) (k := k) (by rw [e]; exact h)
    rw [h1, h2, e]
    exact ⟨rfl, ⟨rfl, rfl⟩, rfl⟩
  · have e : fitsE b ls k = 4 := by unfold fitsE; rw [h, (blt_iff _ _).2 (by omega)]; rfl
    obtain ⟨h1, h2⟩ := fits_bad (b := b) (ls := ls) (k := k) (by rw [e]; decide)
    rw [h1, h2, e]
    exact ⟨rfl, ⟨rfl, rfl⟩, rfl⟩
  · have e : fitsE b ls k = 2 := by
      unfold fitsE
      rw [h, ho, show Nat.blt 64 ls.length = false by rw [Bool.eq_false_iff]; intro h; have := (blt_iff _ _).1 h; omega]
      rfl
    obtain ⟨h1, h2⟩ := fits_bad (b := b) (ls := ls) (k := k) (by rw [e]; decide)
    rw [h1, h2, e]
    exact ⟨rfl, ⟨rfl, rfl⟩, rfl⟩
  have e : fitsE b ls k = 0 := by
    unfold fitsE
    rw [h, ho, show Nat.blt 64 ls.length = false by rw [Bool.eq_false_iff]; intro h; have := (blt_iff _ _).1 h; omega]
    rfl
  obtain ⟨hz, k1, k2, _, hls⟩ := fitsE_ok e
  obtain ⟨_, g2, g3, g4, _⟩ := barE_gaps hz
  have hgl : (gapsOf b).length = b.gs.length + 1 := by unfold gapsOf; simp
  have hG : ∀ i, i < (gapsOf b).length → 0 ≤ ((gapsOf b).getD i ⟨0, 0⟩).a ∧ ((gapsOf b).getD i ⟨0, 0⟩).a ≤ 65536 ∧ 0 ≤ ((gapsOf b).getD i ⟨0, 0⟩).b ∧ ((gapsOf b).getD i ⟨0, 0⟩).b ≤ 65536 := fun i hi => gapsOf_at hz hi
  have hL : ∀ i, i < ls.length → 1 ≤ ls.getD i 0 ∧ ls.getD i 0 ≤ 65536 := fun i hi => hls _ (by
    rw [List.getD_eq_getElem?_getD, List.getElem?_eq_getElem hi]
    exact List.getElem_mem hi)
  have hok : fitsOk b ls k = (fitsR b ls k).2.isEmpty := by unfold fitsOk; rw [e]; rfl
  refine ⟨⟨⟨by omega, ⟨by omega, ?_, ?_⟩, by omega, ?_⟩, by omega, by omega, ?_⟩, fun _ _ => ⟨⟨⟨0, 0, []⟩, ⟨⟨by simp only; omega, by simp only; omega, by simp only; omega, by simp, rfl⟩, rfl, rfl⟩, ⟨⟨⟨fun h => h, fun _ _ _ _ => trivial⟩, rfl⟩, fun _ _ _ _ => trivial⟩, rfl⟩,
    fun s ⟨s1, s2, s3, s4, s5⟩ => ⟨fun hs => ⟨by omega, fun hf => ⟨fun _ => ⟨fun _ => ⟨⟨⟨s.fr, s.out⟩, ⟨⟨s2, by simp only; omega, s4, rfl⟩, rfl⟩, ⟨⟨⟨fun h => h, fun _ _ _ _ => trivial⟩, rfl⟩, fun _ _ _ _ => trivial⟩, rfl, fun _ _ _ _ => rfl⟩,
      fun t ⟨t1, t2, t3, t4⟩ => ⟨fun hp => ?_, fun hp => ?_, bsplit_iff.2 ⟨fun hc => ?_, fun hc => ?_⟩⟩⟩, fun hge => by omega⟩, fun hge => by omega⟩, fun hge => ?_⟩, fun hs => ?_⟩⟩⟩
  iterate 4 exact ⟨(), ⟨hgl, by rw [hgl]⟩, ⟨⟨fun h => h, fun _ _ _ _ => trivial⟩, rfl⟩, hgl, fun i j hi hj => snoc_enc b.gs ⟨b.l, b.l⟩ _ 2 (fun j hj => rfl) i j hi hj⟩
  · have h8 : (t.out.length : Int) < (ls.length : Int) := (ltB_iff _ _).1 hp
    omega
  · have h8 : (t.out.length : Int) < (ls.length : Int) := (ltB_iff _ _).1 hp
    have := hL t.out.length (by omega)
    simp only [inK]; omega
  · rw [Bool.and_eq_true, ltB_iff, leB_iff] at hc
    obtain ⟨c1, c2⟩ := hc
    have hn := hL t.out.length (by omega)
    have ha := hG s.i (by omega)
    refine ⟨by omega, by omega, by simp only [inK]; omega, by simp only [inK]; omega, ⟨t.at_ + (ls.getD t.out.length 0 + k), t.out ++ [t.at_]⟩,
      ⟨⟨⟨by simp only; omega, by simp only; omega, by simp only [List.length_append, List.length_cons, List.length_nil]; omega, ?_⟩, by simp only [List.length_append, List.length_cons, List.length_nil]; omega⟩, rfl⟩,
      ⟨⟨⟨fun h => h, fun _ _ _ _ => trivial⟩, by simp⟩, fun _ _ _ _ => trivial⟩, by simp, fun i j hi hj => snoc_enc t.out _ _ 1 (fun j hj => rfl) i j hi hj⟩
    rw [← t4, getD_drop (l := ls) (z := t.out.length) (d := 0) (by omega), fillS_next c2]
    simp
  · have hstop : ¬ (t.out.length < ls.length ∧ t.at_ + ls.getD t.out.length 0 ≤ ((gapsOf b).getD s.i ⟨0, 0⟩).a) := fun ⟨d1, d2⟩ => by
      rw [(leB_iff _ _).2 d2, (ltB_iff _ _).2 (show (t.out.length : Int) < ls.length by omega)] at hc
      cases hc
    rw [show (ltB s.fr ((gapsOf b).getD s.i ⟨0, 0⟩).a && !(Non Code).isNone) = false by simp]
    have ha := hG s.i (by omega)
    rw [fillS_stop hstop] at t4
    rw [getD_drop (l := gapsOf b) (z := s.i) (d := ⟨0, 0⟩) (by omega), fitsS, (ltB_iff _ _).2 hf, cond_true, ← t4] at s5
    exact ⟨by simp only [inK]; omega, ⟨s.i + 1, ((gapsOf b).getD s.i ⟨0, 0⟩).b, t.out⟩, ⟨⟨⟨by simp only; omega, by simp only; omega, by simp only; omega, t3, s5⟩, by simp only; omega⟩, rfl, by simp⟩,
      ⟨⟨⟨fun h => h, fun _ _ _ _ => trivial⟩, rfl⟩, fun _ _ _ _ => trivial⟩, rfl, fun _ _ _ _ => rfl⟩
  · have hf : ltB s.fr ((gapsOf b).getD s.i ⟨0, 0⟩).a = false := by rw [ltB_eq, decide_eq_false_iff_not]; omega
    have ha := hG s.i (by omega)
    rw [getD_drop (l := gapsOf b) (z := s.i) (d := ⟨0, 0⟩) (by omega), fitsS, hf, cond_false] at s5
    rw [hf]
    exact ⟨by simp only [inK]; omega, ⟨s.i + 1, ((gapsOf b).getD s.i ⟨0, 0⟩).b, s.out⟩, ⟨⟨⟨by simp only; omega, by simp only; omega, by simp only; omega, s4, s5⟩, by simp only; omega⟩, rfl, by simp⟩,
      ⟨⟨⟨fun h => h, fun _ _ _ _ => trivial⟩, rfl⟩, fun _ _ _ _ => trivial⟩, rfl, fun _ _ _ _ => rfl⟩
  · rw [show s.i = (gapsOf b).length by omega, List.drop_length, fitsS] at s5
    rw [← s5] at hok
    refine ⟨fun hl => ?_, fun hl => ?_⟩
    · have h9 : fitsOk b ls k = false := by
        rw [hok]
        simp only [List.isEmpty_eq_false_iff, ne_eq, List.drop_eq_nil_iff]
        omega
      rw [h9, e, show fitsAt b ls k = [] by unfold fitsAt; rw [h9]; rfl]
      exact ⟨rfl, ⟨rfl, rfl⟩, rfl⟩
    · have h9 : fitsOk b ls k = true := by
        rw [hok]
        simp only [List.isEmpty_iff, List.drop_eq_nil_iff]
        omega
      rw [h9, e, show fitsAt b ls k = s.out by unfold fitsAt; rw [h9, ← s5]; rfl]
      exact ⟨rfl, ⟨avM_refl _, rfl⟩, rfl⟩
theorem TFi_sound (b : Bar) (ls : List Int) (k : Int) : TbSound Tryz.prog (TFi b ls k) :=
  TbSound.body mixed (TbSound.plusF (TbSound.plus (TbSound.plus tb0_sound (inst_T (checkKerf_C b k))) (inst_T (conL_C ls))) cloneG_T) _
theorem fitsS_T : PureT Tryz.prog [] 88 fitsG_t := by
  intro xs ps r h hp
  unfold fitsG_t at h
  split at h
  · rename_i x y k
    cases h
    exact weaken (ys := [_, _, _]) ⟨agE_sound (hp _ List.mem_cons_self), slE_sound (hp _ (List.mem_cons_of_mem _ List.mem_cons_self)), avM_refl _, trivial⟩
      (pure_of_vc mixed (TFi_sound (agD x) (slD y) k) (Eq.mp (by kernel_rfl) (fits_vc (agD x) (slD y) k) : vcFn Tryz.prog (TFi (agD x) (slD y) k) 88 (fits_an (agD x) (slD y) k) [agE (agD x), slE (slD y), .i k] (.tup 3 (listFn [slE (fitsAt (agD x) (slD y) k), .b (fitsOk (agD x) (slD y) k), .i (fitsE (agD x) (slD y) k)]))))
  · cases h
end Go.Tz
