/- Contracts: searches, Same, Great. -/
import Derived.Test.YtojonobehnbeiaaGreatDoorTzE
namespace Go.Tz
open Go Go.Sx Go.Proofs
set_option maxRecDepth 100000
def idxF {α : Type} (p : α → Bool) : List α → Nat → Int
  | [], _ => -1
  | a :: l, i => bif p a then (i : Int) else idxF p l (i + 1)
theorem idxF_any {α : Type} (p : α → Bool) : ∀ (l : List α) (i : Nat), leB 0 (idxF p l i) = l.any p
  | [], _ => rfl
  | a :: l, i => by
    unfold idxF
    cases h : p a with
    | true =>
      simp only [cond_true, List.any_cons, h, Bool.true_or]
      exact (leB_iff _ _).2 (by omega)
    | false =>
      simp only [cond_false, List.any_cons, h, Bool.false_or]
      exact idxF_any p l (i + 1)
theorem getD_drop {α : Type} {l : List α} {d : α} {z : Nat} (h : z < l.length) : l.drop z = l.getD z d :: l.drop (z + 1) := by
  rw [List.drop_eq_getElem_cons h, List.getD_eq_getElem?_getD, List.getElem?_eq_getElem h]; rfl
def fn0 (f : FuncId) : AV := .fn (.func f) 0 (fun _ => .junk) 0 (fun _ => .junk)
def idx_an {α : Type} [Enc α] (l : List α) (p : α → Bool) : Ann :=
  .two .auto (.two (.two .auto (.one (.loop Nat (fun σ z => [(0, σ.tm 0), (1, σ.tm 1), (6, σ.tm 0), (7, .i l.length), (8, .i z)]) (fun _ _ => []) 0
    (fun _ z => z ≤ l.length ∧ idxF p (l.drop z) z = idxF p l 0) (fun _ z => l.length - z) .auto))) .auto)
def pLong (u : Used) : Bool := ltB 64 (u.ps.length : Int)
def pOdd (u : Used) : Bool := (u.at_.length : Int) != (u.ps.length : Int)
def pNeg (n : Int) : Bool := ltB n 0
theorem idxA_vc (l : List Used) :
 let q1 := (AV.xl false 3 (l.length) fun i j => Enc.enc (List.getD l i Enc.dflt) j); let q2 := (AV.fn (Fn.func (52 : FuncId)) 0 (fun (x : Nat) => AV.junk) 0 fun (x : Nat) => AV.junk); let q3 := (IntKind.i64 = .i64 ∧ (l.length : Int) = (l.length : Int)); bndL [AV.xl false 3 (l.length) fun i j => Enc.enc (List.getD l i Enc.dflt) j, AV.fn (Fn.func (52 : FuncId)) 0 (fun (x : Nat) => AV.junk) 0 fun (x : Nat) => AV.junk] → (∃ (z : Nat), ((z ≤ l.length ∧ idxF pLong (List.drop z l) z = idxF pLong l 0) ∧ avM q1 q1 ∧ avM q2 q2 ∧ avM q1 q1 ∧ q3 ∧ IntKind.i64 = .i64 ∧ (0 : Int) = (z : Int)) ∧ True) ∧ ∀ (z :
 Nat), z ≤ l.length ∧ idxF pLong (List.drop z l) z = idxF pLong l 0 → bsplit (ltB (z : Int) (l.length : Int)) (bsplit (DB.db ((0 : Int) ≤ (z : Int) ∧ (z : Int) < (l.length : Int))) (bsplit (ltB (64 : Int) (↑(List.length (Used.ps (List.getD l (Int.toNat (z : Int)) Enc.dflt))) : Int)) (IntKind.i64 = .i64 ∧ (z : Int) = idxF pLong l 0) (bsplit (DB.db (inK .i64 ((z : Int) + (1 : Int)))) (∃ (z' : Nat), (((z' ≤ l.length ∧ idxF pLong (List.drop z' l) z' = idxF pLong l 0) ∧ l.length - z' < l.length - z) ∧ avM q1 q1 ∧ avM q2 q2 ∧ avM q1 q1 ∧ q3 ∧ IntKind.i64 = .i64 ∧ (z : Int) + (1 : Int) = (z' : Int)) ∧
 True) False)) False) (IntKind.i64 = .i64 ∧ (-1 : Int) = idxF pLong l 0) := by
  dsimp only
  intro hb
  have hl : l.length ≤ 9223372036854775807 := hb.1.1
  simp only [avM_refl, true_and, and_true, Int.toNat_natCast]
  refine ⟨⟨0, by simp⟩, fun z ⟨h1, h2⟩ => vc_lt.2 ⟨fun hz => vc_db.2 ⟨by omega, (bsplit_iff (t := pLong (l.getD z Enc.dflt))).2 ⟨fun hp => ?_, fun hp => ?_⟩⟩, fun hz => ?_⟩⟩
  · rw [getD_drop (d := Enc.dflt) (by omega), idxF, hp] at h2; exact h2
  · rw [getD_drop (d := Enc.dflt) (by omega), idxF, hp] at h2
    refine vc_db.2 ⟨by simp only [inK]; omega, z + 1, ⟨⟨by omega, h2⟩, by omega⟩, by omega⟩
  · rw [show z = l.length by omega, List.drop_length] at h2; exact h2
theorem idxB_vc (l : List Used) :
 let q1 := (AV.xl false 3 (l.length) fun i j => Enc.enc (List.getD l i Enc.dflt) j); let q2 := (AV.fn (Fn.func (53 : FuncId)) 0 (fun (x : Nat) => AV.junk) 0 fun (x : Nat) => AV.junk); let q3 := (IntKind.i64 = .i64 ∧ (l.length : Int) = (l.length : Int)); bndL [AV.xl false 3 (l.length) fun i j => Enc.enc (List.getD l i Enc.dflt) j, AV.fn (Fn.func (53 : FuncId)) 0 (fun (x : Nat) => AV.junk) 0 fun (x : Nat) => AV.junk] → (∃ (z : Nat), ((z ≤ l.length ∧ idxF pOdd (List.drop z l) z = idxF pOdd l 0) ∧ avM q1 q1 ∧ avM q2 q2 ∧ avM q1 q1 ∧ q3 ∧ IntKind.i64 = .i64 ∧ (0 : Int) = (z : Int)) ∧ True) ∧ ∀ (z :
 Nat), let q4 := (List.getD l (Int.toNat (z : Int)) Enc.dflt); z ≤ l.length ∧ idxF pOdd (List.drop z l) z = idxF pOdd l 0 → bsplit (ltB (z : Int) (l.length : Int)) (bsplit (DB.db ((0 : Int) ≤ (z : Int) ∧ (z : Int) < (l.length : Int))) (bsplit ((↑(List.length (Used.at_ q4)) : Int) != (↑(List.length (Used.ps q4)) : Int)) (IntKind.i64 = .i64 ∧ (z : Int) = idxF pOdd l 0) (bsplit (DB.db (inK .i64 ((z : Int) + (1 : Int)))) (∃ (z' : Nat), (((z' ≤ l.length ∧ idxF pOdd (List.drop z' l) z' = idxF pOdd l 0) ∧ l.length - z' < l.length - z) ∧ avM q1 q1 ∧ avM q2 q2 ∧ avM q1 q1 ∧ q3 ∧ IntKind.i64 = .i64 ∧ (z :
 Int) + (1 : Int) = (z' : Int)) ∧ True) False)) False) (IntKind.i64 = .i64 ∧ (-1 : Int) = idxF pOdd l 0) := by
  dsimp only
  intro hb
  have hl : l.length ≤ 9223372036854775807 := hb.1.1
  simp only [avM_refl, true_and, and_true, Int.toNat_natCast]
  refine ⟨⟨0, by simp⟩, fun z ⟨h1, h2⟩ => vc_lt.2 ⟨fun hz => vc_db.2 ⟨by omega, (bsplit_iff (t := pOdd (l.getD z Enc.dflt))).2 ⟨fun hp => ?_, fun hp => ?_⟩⟩, fun hz => ?_⟩⟩
  · rw [getD_drop (d := Enc.dflt) (by omega), idxF, hp] at h2; exact h2
  · rw [getD_drop (d := Enc.dflt) (by omega), idxF, hp] at h2
    refine vc_db.2 ⟨by simp only [inK]; omega, z + 1, ⟨⟨by omega, h2⟩, by omega⟩, by omega⟩
  · rw [show z = l.length by omega, List.drop_length] at h2; exact h2
theorem idxC_vc (l : List Int) :
 let q1 := (AV.xl false 1 (l.length) fun i j => AV.v (Value.int .i64 (List.getD l i Enc.dflt))); let q2 := (AV.fn (Fn.func (54 : FuncId)) 0 (fun (x : Nat) => AV.junk) 0 fun (x : Nat) => AV.junk); let q3 := (IntKind.i64 = .i64 ∧ (l.length : Int) = (l.length : Int)); bndL [AV.xl false 1 (l.length) fun i j => AV.v (Value.int .i64 (List.getD l i Enc.dflt)), AV.fn (Fn.func (54 : FuncId)) 0 (fun (x : Nat) => AV.junk) 0 fun (x : Nat) => AV.junk] → (∃ (z : Nat), ((z ≤ l.length ∧ idxF pNeg (List.drop z l) z = idxF pNeg l 0) ∧ avM q1 q1 ∧ avM q2 q2 ∧ avM q1 q1 ∧ q3 ∧ IntKind.i64 = .i64 ∧ (0 : Int) = (z :
 Int)) ∧ True) ∧ ∀ (z : Nat), z ≤ l.length ∧ idxF pNeg (List.drop z l) z = idxF pNeg l 0 → bsplit (ltB (z : Int) (l.length : Int)) (bsplit (DB.db ((0 : Int) ≤ (z : Int) ∧ (z : Int) < (l.length : Int))) (bsplit (ltB (List.getD l (Int.toNat (z : Int)) Enc.dflt) (0 : Int)) (IntKind.i64 = .i64 ∧ (z : Int) = idxF pNeg l 0) (bsplit (DB.db (inK .i64 ((z : Int) + (1 : Int)))) (∃ (z' : Nat), (((z' ≤ l.length ∧ idxF pNeg (List.drop z' l) z' = idxF pNeg l 0) ∧ l.length - z' < l.length - z) ∧ avM q1 q1 ∧ avM q2 q2 ∧ avM q1 q1 ∧ q3 ∧ IntKind.i64 = .i64 ∧ (z : Int) + (1 : Int) = (z' : Int)) ∧ True) False))
 False) (IntKind.i64 = .i64 ∧ (-1 : Int) = idxF pNeg l 0) := by
  dsimp only
  intro hb
  have hl : l.length ≤ 9223372036854775807 := hb.1.1
  simp only [avM_refl, true_and, and_true, Int.toNat_natCast]
  refine ⟨⟨0, by simp⟩, fun z ⟨h1, h2⟩ => vc_lt.2 ⟨fun hz => vc_db.2 ⟨by omega, (bsplit_iff (t := pNeg (l.getD z Enc.dflt))).2 ⟨fun hp => ?_, fun hp => ?_⟩⟩, fun hz => ?_⟩⟩
  · rw [getD_drop (d := Enc.dflt) (by omega), idxF, hp] at h2; exact h2
  · rw [getD_drop (d := Enc.dflt) (by omega), idxF, hp] at h2
    refine vc_db.2 ⟨by simp only [inK]; omega, z + 1, ⟨⟨by omega, h2⟩, by omega⟩, by omega⟩
  · rw [show z = l.length by omega, List.drop_length] at h2; exact h2
def same_an (l m : List Int) : Ann :=
  .two .auto (.two .auto (.two (.two .auto (.one (.loop Nat (fun σ z => [(0, σ.tm 0), (1, σ.tm 1), (5, .i z)]) (fun _ _ => []) 0
    (fun _ z => z ≤ l.length ∧ ∀ i, i < z → l.getD i 0 = m.getD i 0) (fun _ z => l.length - z) .auto))) .auto))
theorem sameI_vc (l m : List Int) :
 let q1 := (AV.xl false 1 (l.length) fun i j => AV.v (Value.int .i64 (List.getD l i Enc.dflt))); let q2 := (AV.xl false 1 (m.length) fun i j => AV.v (Value.int .i64 (List.getD m i Enc.dflt))); bndL [AV.xl false 1 (l.length) fun i j => AV.v (Value.int .i64 (List.getD l i Enc.dflt)), AV.xl false 1 (m.length) fun i j => AV.v (Value.int .i64 (List.getD m i Enc.dflt))] → bsplit ((l.length : Int) != (m.length : Int)) (false = decide (l = m)) ((∃ (z : Nat), ((z ≤ l.length ∧ ∀ (i : Nat), i < z → List.getD l i (0 : Int) = List.getD m i (0 : Int)) ∧ avM q1 q1 ∧ avM q2 q2 ∧ IntKind.i64 = .i64 ∧ (0 : Int) =
 (z : Int)) ∧ True) ∧ ∀ (z : Nat), (z ≤ l.length ∧ ∀ (i : Nat), i < z → List.getD l i (0 : Int) = List.getD m i (0 : Int)) → bsplit (ltB (z : Int) (l.length : Int)) (bsplit (DB.db ((0 : Int) ≤ (z : Int) ∧ (z : Int) < (l.length : Int))) (bsplit (DB.db ((0 : Int) ≤ (z : Int) ∧ (z : Int) < (m.length : Int))) (bsplit (List.getD l (Int.toNat (z : Int)) Enc.dflt != List.getD m (Int.toNat (z : Int)) Enc.dflt) (false = decide (l = m)) (bsplit (DB.db (inK .i64 ((z : Int) + (1 : Int)))) (∃ (z' : Nat), (((z' ≤ l.length ∧ ∀ (i : Nat), i < z' → List.getD l i (0 : Int) = List.getD m i (0 : Int)) ∧ l.length -
 z' < l.length - z) ∧ avM q1 q1 ∧ avM q2 q2 ∧ IntKind.i64 = .i64 ∧ (z : Int) + (1 : Int) = (z' : Int)) ∧ True) False)) False) False) (true = decide (l = m))) := by
  dsimp only
  intro hb
  have hl : l.length ≤ 9223372036854775807 := hb.1.1
  simp only [avM_refl, true_and, and_true, vc_lt, vc_ne, Int.toNat_natCast]
  refine ⟨fun hne => ?_, fun heq => ⟨⟨0, ⟨by omega, fun i hi => by omega⟩, rfl⟩, fun z ⟨h1, h2⟩ => ⟨fun hz => vc_db.2 ⟨by omega, vc_db.2 ⟨by omega, fun hn => ?_, fun he => vc_db.2 ⟨by simp only [inK]; omega, z + 1, ⟨⟨by omega, fun i hi => ?_⟩, by omega⟩, by omega⟩⟩⟩, fun hz => ?_⟩⟩⟩
  · rw [Eq.comm, decide_eq_false_iff_not]
    rintro rfl
    exact hne rfl
  · rw [Eq.comm, decide_eq_false_iff_not]
    rintro rfl
    exact hn rfl
  · by_cases e : i = z
    · rw [e]; exact he
    · exact h2 i (by omega)
  · rw [Eq.comm, decide_eq_true_eq]
    apply List.ext_getElem (by omega)
    intro i h3 h4
    have := h2 i (by omega)
    simpa [List.getD_eq_getElem?_getD, h3, h4] using this
def rdI : AV → List Int
  | .xl _ _ n e => listOf n fun i => AV.int (e i 0)
  | _ => []
def okI (x : AV) : Prop :=
  match x with
  | .xl _ sz n e => sz = 1 ∧ ∀ i, i < n → isI64 (e i 0) = true
  | _ => False
theorem okI_avM {x : AV} (h : okI x) : avM x (slE (rdI x)) := by
  unfold okI at h
  split at h
  · rename_i f sz n e
    obtain ⟨rfl, h⟩ := h
    refine ⟨(fun h => by cases h), rfl, by simp [rdI, listOf], fun i j hi hj => ?_⟩
    obtain rfl : j = 0 := by omega
    have : (rdI (.xl f 1 n e)).getD i Enc.dflt = AV.int (e i 0) := by simp [rdI, listOf, List.getD_eq_getElem?_getD, hi]
    show avM (e i 0) (.i ((rdI (.xl f 1 n e)).getD i Enc.dflt))
    rw [this]
    exact avM_of_eq (isI64_eq (h i hi))
  · exact h.elim
def sameI_t : List AV → Option (List Cond × AV)
  | [x, y] => some ([.p (okI x), .p (okI y)], .b (decide (rdI x = rdI y)))
  | _ => none
theorem sameI_T : PureT Tryz.prog [] 44 sameI_t := by
  intro xs ps r h hp
  unfold sameI_t at h
  split at h
  · rename_i x y
    cases h
    have h1 : okI x := hp _ List.mem_cons_self
    have h2 : okI y := hp _ (List.mem_cons_of_mem _ List.mem_cons_self)
    exact weaken (ys := [_, _]) ⟨okI_avM h1, okI_avM h2, trivial⟩ (pure_of_vc mixed tb0_sound (Eq.mp (by kernel_rfl) (sameI_vc (rdI x) (rdI y)) : vcFn Tryz.prog T0 44 (same_an (rdI x) (rdI y)) [slE (rdI x), slE (rdI y)] (.b (decide (rdI x = rdI y)))))
  · cases h
noncomputable def T2d : Tb := T0.deep Tryz.prog 2
theorem T2d_sound : TbSound Tryz.prog T2d := TbSound.deep mixed tb0_sound 2
theorem idxC_C (l : List Int) : PureCall Tryz.prog [] 82 [slE l, fn0 54] (.i (idxF pNeg l 0)) :=
  pure_of_vc mixed T2d_sound (Eq.mp (by kernel_rfl) (idxC_vc l) : vcFn Tryz.prog (T0.deep Tryz.prog 2) 82 (idx_an l pNeg) [slE l, fn0 54] (.i (idxF pNeg l 0)))
theorem idxA_C (l : List Used) : PureCall Tryz.prog [] 85 [slE l, fn0 52] (.i (idxF pLong l 0)) :=
  pure_of_vc mixed T2d_sound (Eq.mp (by kernel_rfl) (idxA_vc l) : vcFn Tryz.prog (T0.deep Tryz.prog 2) 85 (idx_an l pLong) [slE l, fn0 52] (.i (idxF pLong l 0)))
theorem idxB_C (l : List Used) : PureCall Tryz.prog [] 85 [slE l, fn0 53] (.i (idxF pOdd l 0)) :=
  pure_of_vc mixed T2d_sound (Eq.mp (by kernel_rfl) (idxB_vc l) : vcFn Tryz.prog (T0.deep Tryz.prog 2) 85 (idx_an l pOdd) [slE l, fn0 53] (.i (idxF pOdd l 0)))
theorem wkP {x : List Used} {y : AV} : Wk [slE x, y] [slE x, y] := Wk.refl _
theorem conA_vc (l : List Used) : bndL [AV.xl false 3 (l.length) fun i j => Enc.enc (List.getD l i Enc.dflt) j, AV.fn (Fn.func (52 : FuncId)) 0 (fun (x : Nat) => AV.junk) 0 fun (x : Nat) => AV.junk] → Wk [AV.xl false 3 (l.length) fun i j => Enc.enc (List.getD l i Enc.dflt) j, AV.fn (Fn.func (52 : FuncId)) 0 (fun (x : Nat) => AV.junk) 0 fun (x : Nat) => AV.junk] [AV.xl false 3 (l.length) fun i j => Enc.enc (List.getD l i Enc.dflt) j, AV.fn (Fn.func (52 : FuncId)) 0 (fun (x : Nat) => AV.junk) 0 fun (x : Nat) => AV.junk] ∧ leB (0 : Int) (idxF pLong l 0) = List.any l pLong := by
  intro hb
  exact ⟨Wk.refl _, idxF_any _ _ _⟩
theorem conB_vc (l : List Used) : bndL [AV.xl false 3 (l.length) fun i j => Enc.enc (List.getD l i Enc.dflt) j, AV.fn (Fn.func (53 : FuncId)) 0 (fun (x : Nat) => AV.junk) 0 fun (x : Nat) => AV.junk] → Wk [AV.xl false 3 (l.length) fun i j => Enc.enc (List.getD l i Enc.dflt) j, AV.fn (Fn.func (53 : FuncId)) 0 (fun (x : Nat) => AV.junk) 0 fun (x : Nat) => AV.junk] [AV.xl false 3 (l.length) fun i j => Enc.enc (List.getD l i Enc.dflt) j, AV.fn (Fn.func (53 : FuncId)) 0 (fun (x : Nat) => AV.junk) 0 fun (x : Nat) => AV.junk] ∧ leB (0 : Int) (idxF pOdd l 0) = List.any l pOdd := by
  intro hb
  exact ⟨Wk.refl _, idxF_any _ _ _⟩
theorem conC_vc (l : List Int) : bndL [AV.xl false 1 (l.length) fun i j => AV.v (Value.int .i64 (List.getD l i Enc.dflt)), AV.fn (Fn.func (54 : FuncId)) 0 (fun (x : Nat) => AV.junk) 0 fun (x : Nat) => AV.junk] → Wk [AV.xl false 1 (l.length) fun i j => AV.v (Value.int .i64 (List.getD l i Enc.dflt)), AV.fn (Fn.func (54 : FuncId)) 0 (fun (x : Nat) => AV.junk) 0 fun (x : Nat) => AV.junk] [AV.xl false 1 (l.length) fun i j => AV.v (Value.int .i64 (List.getD l i Enc.dflt)), AV.fn (Fn.func (54 : FuncId)) 0 (fun (x : Nat) => AV.junk) 0 fun (x : Nat) => AV.junk] ∧ leB (0 : Int) (idxF pNeg l 0) = List.any
 l pNeg := by
  intro hb
  exact ⟨Wk.refl _, idxF_any _ _ _⟩
theorem conA_C (l : List Used) : PureCall Tryz.prog [] 51 [slE l, fn0 52] (.b (l.any pLong)) :=
  pure_of_vc mixed (TbSound.plus tb0_sound (inst_T (idxA_C l))) (Eq.mp (by kernel_rfl) (conA_vc l) : vcFn Tryz.prog (T0.plus 85 (inst [slE l, fn0 52] (.i (idxF pLong l 0)))) 51 .auto [slE l, fn0 52] (.b (l.any pLong)))
theorem conB_C (l : List Used) : PureCall Tryz.prog [] 51 [slE l, fn0 53] (.b (l.any pOdd)) :=
  pure_of_vc mixed (TbSound.plus tb0_sound (inst_T (idxB_C l))) (Eq.mp (by kernel_rfl) (conB_vc l) : vcFn Tryz.prog (T0.plus 85 (inst [slE l, fn0 53] (.i (idxF pOdd l 0)))) 51 .auto [slE l, fn0 53] (.b (l.any pOdd)))
theorem conC_C (l : List Int) : PureCall Tryz.prog [] 45 [slE l, fn0 54] (.b (l.any pNeg)) :=
  pure_of_vc mixed (TbSound.plus tb0_sound (inst_T (idxC_C l))) (Eq.mp (by kernel_rfl) (conC_vc l) : vcFn Tryz.prog (T0.plus 82 (inst [slE l, fn0 54] (.i (idxF pNeg l 0)))) 45 .auto [slE l, fn0 54] (.b (l.any pNeg)))
def con14_t (l : List Used) : List AV → Option (List Cond × AV)
  | [x, .fn (.func f) nf a nc b] =>
    bif Nat.beq f 52 then some ([.p (Wk [x, .fn (.func f) nf a nc b] [slE l, fn0 52])], .b (l.any pLong))
    else bif Nat.beq f 53 then some ([.p (Wk [x, .fn (.func f) nf a nc b] [slE l, fn0 53])], .b (l.any pOdd))
    else none
  | _ => none
theorem con14_T (l : List Used) : PureT Tryz.prog [] 51 (con14_t l) := by
  intro xs ps r h hp
  unfold con14_t at h
  split at h
  · rename_i x f nf a nc b
    cases h15 : Nat.beq f 52 with
    | true =>
      rw [h15] at h
      cases h
      exact weaken (hp _ List.mem_cons_self : Wk _ _).h (conA_C l)
    | false =>
      rw [h15] at h
      cases h16 : Nat.beq f 53 with
      | true =>
        rw [h16] at h
        cases h
        exact weaken (hp _ List.mem_cons_self : Wk _ _).h (conB_C l)
      | false => rw [h16] at h; cases h
  · cases h
def con18_t : List AV → Option (List Cond × AV)
  | [x, .fn (.func f) nf a nc b] => bif Nat.beq f 54 && Nat.beq nf 0 && Nat.beq nc 0 then some ([.p (okI x)], .b ((rdI x).any pNeg)) else none
  | _ => none
theorem con18_T : PureT Tryz.prog [] 45 con18_t := by
  intro xs ps r h hp
  unfold con18_t at h
  split at h
  · rename_i x f nf a nc b
    cases hc : Nat.beq f 54 && Nat.beq nf 0 && Nat.beq nc 0 with
    | false => rw [hc] at h; cases h
    | true =>
      rw [hc] at h
      cases h
      simp only [Bool.and_eq_true] at hc
      obtain rfl := Nat.eq_of_beq_eq_true hc.1.1
      obtain rfl := Nat.eq_of_beq_eq_true hc.1.2
      obtain rfl := Nat.eq_of_beq_eq_true hc.2
      have h1 : okI x := hp _ List.mem_cons_self
      refine weaken (ys := [_, _]) ⟨okI_avM h1, ?_, trivial⟩ (conC_C (rdI x))
      exact ⟨rfl, rfl, rfl, trivial, trivial⟩
  · cases h
end Go.Tz
