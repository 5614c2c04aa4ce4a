/- Pieces, bars, used bars as data; stock.Fits at the pieces of the example. -/
import Derived.Test.YtojonobehnbeiaaGreatDoorTzA
import Derived.Test.YtojonobehnbeiaaGreatDoorSxS
namespace Go.Tz
open Go Go.Sx Go.Proofs
set_option maxRecDepth 100000
structure Gap where
  a : Int
  b : Int
deriving DecidableEq
structure Cut where
  w : Int
  d : Int
  l : Int
  ms : List Int
deriving DecidableEq
structure Bar where
  w : Int
  d : Int
  l : Int
  n : Int
  c : Int
  gs : List Gap
deriving DecidableEq
structure Used where
  bar : Int
  ps : List Int
  at_ : List Int
deriving DecidableEq
instance : Enc Gap := ⟨2, ⟨0, 0⟩, fun g => listFn [.i g.a, .i g.b], fun cs => ⟨AV.int (cs 0), AV.int (cs 1)⟩, fun cs => isI64 (cs 0) && isI64 (cs 1), fun cs h j hj => by
  simp only [Bool.and_eq_true] at h
  match j, hj with
  | 0, _ => exact avM_of_eq (isI64_eq h.1)
  | 1, _ => exact avM_of_eq (isI64_eq h.2)⟩
instance : Enc Cut := ⟨4, ⟨0, 0, 0, []⟩, fun c => listFn [.i c.w, .i c.d, .i c.l, slE c.ms], fun cs => ⟨AV.int (cs 0), AV.int (cs 1), AV.int (cs 2), slD (cs 3)⟩,
  fun cs => isI64 (cs 0) && isI64 (cs 1) && isI64 (cs 2) && slOk Int (cs 3), fun cs h j hj => by
  simp only [Bool.and_eq_true] at h
  match j, hj with
  | 0, _ => exact avM_of_eq (isI64_eq h.1.1.1)
  | 1, _ => exact avM_of_eq (isI64_eq h.1.1.2)
  | 2, _ => exact avM_of_eq (isI64_eq h.1.2)
  | 3, _ => exact slE_sound h.2⟩
instance : Enc Bar := ⟨6, ⟨0, 0, 0, 0, 0, []⟩, fun c => listFn [.i c.w, .i c.d, .i c.l, .i c.n, .i c.c, slE c.gs], fun cs => ⟨AV.int (cs 0), AV.int (cs 1), AV.int (cs 2), AV.int (cs 3), AV.int (cs 4), slD (cs 5)⟩,
  fun cs => isI64 (cs 0) && isI64 (cs 1) && isI64 (cs 2) && isI64 (cs 3) && isI64 (cs 4) && slOk Gap (cs 5), fun cs h j hj => by
  simp only [Bool.and_eq_true] at h
  match j, hj with
  | 0, _ => exact avM_of_eq (isI64_eq h.1.1.1.1.1)
  | 1, _ => exact avM_of_eq (isI64_eq h.1.1.1.1.2)
  | 2, _ => exact avM_of_eq (isI64_eq h.1.1.1.2)
  | 3, _ => exact avM_of_eq (isI64_eq h.1.1.2)
  | 4, _ => exact avM_of_eq (isI64_eq h.1.2)
  | 5, _ => exact slE_sound h.2⟩
instance : Enc Used := ⟨3, ⟨0, [], []⟩, fun c => listFn [.i c.bar, slE c.ps, slE c.at_], fun cs => ⟨AV.int (cs 0), slD (cs 1), slD (cs 2)⟩,
  fun cs => isI64 (cs 0) && slOk Int (cs 1) && slOk Int (cs 2), fun cs h j hj => by
  simp only [Bool.and_eq_true] at h
  match j, hj with
  | 0, _ => exact avM_of_eq (isI64_eq h.1.1)
  | 1, _ => exact slE_sound h.1.2
  | 2, _ => exact slE_sound h.2⟩
noncomputable def T1 : Tb := ((((((((T0.plus 94 between_t).plus 78 compare_t).plus 75 asc_t).plus 73 outside_t).plus 80 section_t).plus 38 order_t).plus 42 or_t).plusF 123 (clone_t 107 2 16)).plusF 70 (clone_t 3 1 8)
theorem T1_sound : TbSound Tryz.prog T1 :=
  TbSound.plusF (TbSound.plusF (TbSound.plus (TbSound.plus (TbSound.plus (TbSound.plus (TbSound.plus (TbSound.plus (TbSound.plus tb0_sound between_T) compare_T) asc_T) outside_T) section_T) order_T) or_T) cloneG_T) cloneI_T
noncomputable def TFd : Tb := T1.deep Tryz.prog 6
theorem TFd_sound : TbSound Tryz.prog TFd := TbSound.deep mixed T1_sound 6
def bar0 : Bar := ⟨60, 120, 100, 3, 7, []⟩
theorem fitW {els : Nat → Nat → AV} (l : List Int) (ok : Bool) (h : ∀ i, i < l.length → els i 0 = .i (l.getD i 0)) :
    AvW (.tup 3 fun i => Option.getD [.xl false 1 l.length els, .v (.bool ok), .v (.int .i64 0)][i]? .junk) (.tup 3 (listFn [slE l, .b ok, .i 0])) := by
  refine ⟨rfl, allB_of fun i hi => ?_⟩
  match i, hi with
  | 0, _ =>
    refine ⟨fun h => h, rfl, rfl, fun i j hi hj => avM_of_eq ?_⟩
    obtain rfl : j = 0 := by have : j < 1 := hj; omega
    exact h i hi
  | 1, _ => exact avM_refl _
  | 2, _ => exact avM_refl _
theorem fitN : AvW (.tup 3 fun i => Option.getD [.v (.slice none 0 0), .v (.bool false), .v (.int .i64 0)][i]? .junk) (.tup 3 (listFn [slE ([] : List Int), .b false, .i 0])) := by
  refine ⟨rfl, allB_of fun i hi => ?_⟩
  match i, hi with
  | 0, _ => exact ⟨rfl, rfl⟩
  | 1, _ => exact avM_refl _
  | 2, _ => exact avM_refl _
def fitR (l : List Int) (ok : Bool) : AV := .tup 3 (listFn [slE l, .b ok, .i 0])
theorem fitA_vc (r : AV) (hr : r = fitR [0] true) :
 let q1 := (AV.tup 3 fun (i : Nat) => Option.getD [AV.xl false 1 1 fun i j => Sx.rowAt [fun (x : Nat) => AV.v (Value.int .i64 (0 : Int))] (0 + i) j, AV.v (Value.bool true), AV.v (Value.int .i64 (0 : Int))][i]? AV.junk); bndL [AV.agg 6 (Enc.enc bar0), AV.xl false 1 1 fun i j => AV.v (Value.int .i64 (List.getD [(60 : Int)] i Enc.dflt)), AV.v (Value.int .i64 (0 : Int))] → ((AvW q1 r ∧ AvW q1 r) ∧ AvW q1 r) ∧ AvW q1 r := by
  dsimp only
  intro _
  subst hr
  repeat' apply And.intro
  all_goals exact fitW [0] true (fun i hi => match i, hi with | 0, _ => rfl)
theorem fitB_vc (r : AV) (hr : r = fitR [] false) :
 let q1 := (AV.tup 3 fun (i : Nat) => Option.getD [AV.v (Value.slice (Non Addr) 0 0), AV.v (Value.bool false), AV.v (Value.int .i64 (0 : Int))][i]? AV.junk); bndL [AV.agg 6 (Enc.enc bar0), AV.xl false 1 2 fun i j => AV.v (Value.int .i64 (List.getD [(60 : Int), (50 : Int)] i Enc.dflt)), AV.v (Value.int .i64 (0 : Int))] → ((AvW q1 r ∧ AvW q1 r) ∧ AvW q1 r) ∧ AvW q1 r := by
  dsimp only
  intro _
  subst hr
  repeat' apply And.intro
  all_goals exact fitN
theorem fitC_vc (r : AV) (hr : r = fitR [0] true) :
 let q1 := (AV.tup 3 fun (i : Nat) => Option.getD [AV.xl false 1 1 fun i j => Sx.rowAt [fun (x : Nat) => AV.v (Value.int .i64 (0 : Int))] (0 + i) j, AV.v (Value.bool true), AV.v (Value.int .i64 (0 : Int))][i]? AV.junk); bndL [AV.agg 6 (Enc.enc bar0), AV.xl false 1 1 fun i j => AV.v (Value.int .i64 (List.getD [(50 : Int)] i Enc.dflt)), AV.v (Value.int .i64 (0 : Int))] → ((AvW q1 r ∧ AvW q1 r) ∧ AvW q1 r) ∧ AvW q1 r := by
  dsimp only
  intro _
  subst hr
  repeat' apply And.intro
  all_goals exact fitW [0] true (fun i hi => match i, hi with | 0, _ => rfl)
theorem fitD_vc (r : AV) (hr : r = fitR [0, 60] true) :
 let q1 := (AV.tup 3 fun (i : Nat) => Option.getD [AV.xl false 1 2 fun i j => if 0 + i < 1 then Sx.rowAt [fun (x : Nat) => AV.v (Value.int .i64 (0 : Int))] (0 + i) j else Sx.rowAt [fun (x : Nat) => AV.v (Value.int .i64 ((0 : Int) + (List.getD [(60 : Int), (40 : Int)] 0 Enc.dflt + (0 : Int))))] (0 + i - 1) j, AV.v (Value.bool true), AV.v (Value.int .i64 (0 : Int))][i]? AV.junk); bndL [AV.agg 6 (Enc.enc bar0), AV.xl false 1 2 fun i j => AV.v (Value.int .i64 (List.getD [(60 : Int), (40 : Int)] i Enc.dflt)), AV.v (Value.int .i64 (0 : Int))] → ((AvW q1 r ∧ AvW q1 r) ∧ AvW q1 r) ∧ AvW q1 r := by
  dsimp only
  intro _
  subst hr
  repeat' apply And.intro
  all_goals exact fitW [0, 60] true (fun i hi => match i, hi with | 0, _ => rfl | 1, _ => rfl)
theorem fitE_vc (r : AV) (hr : r = fitR [0, 50] true) :
 let q1 := (AV.tup 3 fun (i : Nat) => Option.getD [AV.xl false 1 2 fun i j => if 0 + i < 1 then Sx.rowAt [fun (x : Nat) => AV.v (Value.int .i64 (0 : Int))] (0 + i) j else Sx.rowAt [fun (x : Nat) => AV.v (Value.int .i64 ((0 : Int) + (List.getD [(50 : Int), (40 : Int)] 0 Enc.dflt + (0 : Int))))] (0 + i - 1) j, AV.v (Value.bool true), AV.v (Value.int .i64 (0 : Int))][i]? AV.junk); bndL [AV.agg 6 (Enc.enc bar0), AV.xl false 1 2 fun i j => AV.v (Value.int .i64 (List.getD [(50 : Int), (40 : Int)] i Enc.dflt)), AV.v (Value.int .i64 (0 : Int))] → ((AvW q1 r ∧ AvW q1 r) ∧ AvW q1 r) ∧ AvW q1 r := by
  dsimp only
  intro _
  subst hr
  repeat' apply And.intro
  all_goals exact fitW [0, 50] true (fun i hi => match i, hi with | 0, _ => rfl | 1, _ => rfl)
theorem fitF_vc (r : AV) (hr : r = fitR [0] true) :
 let q1 := (AV.tup 3 fun (i : Nat) => Option.getD [AV.xl false 1 1 fun i j => Sx.rowAt [fun (x : Nat) => AV.v (Value.int .i64 (0 : Int))] (0 + i) j, AV.v (Value.bool true), AV.v (Value.int .i64 (0 : Int))][i]? AV.junk); bndL [AV.agg 6 (Enc.enc bar0), AV.xl false 1 1 fun i j => AV.v (Value.int .i64 (List.getD [(40 : Int)] i Enc.dflt)), AV.v (Value.int .i64 (0 : Int))] → ((AvW q1 r ∧ AvW q1 r) ∧ AvW q1 r) ∧ AvW q1 r := by
  dsimp only
  intro _
  subst hr
  repeat' apply And.intro
  all_goals exact fitW [0] true (fun i hi => match i, hi with | 0, _ => rfl)
def fitC (l : List Int) : Option (List Int × Bool) :=
  bif l == [60] then some ([0], true) else
  bif l == [60, 50] then some ([], false) else
  bif l == [50] then some ([0], true) else
  bif l == [60, 40] then some ([0, 60], true) else
  bif l == [50, 40] then some ([0, 50], true) else
  bif l == [40] then some ([0], true) else
  none
def fits_t : List AV → Option (List Cond × AV)
  | [x, y, .v (.int .i64 k)] =>
    match fitC (slD y) with
    | some (l, ok) => some ([.b (agOk Bar x), .b (slOk Int y), .b (decide (agD x = bar0)), .b (k == 0)], fitR l ok)
    | none => none
  | _ => none
theorem fitC_T {l : List Int} {a : List Int} {ok : Bool} (h : fitC l = some (a, ok)) : PureCall Tryz.prog [] 88 [agE bar0, slE l, .i 0] (fitR a ok) := by
  unfold fitC at h
  cases eA : l == [60] with
  | true =>
    rw [eA] at h
    cases h
    rw [eq_of_beq eA]
    exact pure_of_vcW mixed TFd_sound (Eq.mp (by kernel_rfl) (fitA_vc _ rfl) : vcFnW Tryz.prog TFd 88 .auto [agE bar0, slE ([60] : List Int), .i 0] (fitR [0] true))
  | false =>
  rw [eA] at h
  cases eB : l == [60, 50] with
  | true =>
    rw [eB] at h
    cases h
    rw [eq_of_beq eB]
    exact pure_of_vcW mixed TFd_sound (Eq.mp (by kernel_rfl) (fitB_vc _ rfl) : vcFnW Tryz.prog TFd 88 .auto [agE bar0, slE ([60, 50] : List Int), .i 0] (fitR [] false))
  | false =>
  rw [eB] at h
  cases eC : l == [50] with
  | true =>
    rw [eC] at h
    cases h
    rw [eq_of_beq eC]
    exact pure_of_vcW mixed TFd_sound (Eq.mp (by kernel_rfl) (fitC_vc _ rfl) : vcFnW Tryz.prog TFd 88 .auto [agE bar0, slE ([50] : List Int), .i 0] (fitR [0] true))
  | false =>
  rw [eC] at h
  cases eD : l == [60, 40] with
  | true =>
    rw [eD] at h
    cases h
    rw [eq_of_beq eD]
    exact pure_of_vcW mixed TFd_sound (Eq.mp (by kernel_rfl) (fitD_vc _ rfl) : vcFnW Tryz.prog TFd 88 .auto [agE bar0, slE ([60, 40] : List Int), .i 0] (fitR [0, 60] true))
  | false =>
  rw [eD] at h
  cases eE : l == [50, 40] with
  | true =>
    rw [eE] at h
    cases h
    rw [eq_of_beq eE]
    exact pure_of_vcW mixed TFd_sound (Eq.mp (by kernel_rfl) (fitE_vc _ rfl) : vcFnW Tryz.prog TFd 88 .auto [agE bar0, slE ([50, 40] : List Int), .i 0] (fitR [0, 50] true))
  | false =>
  rw [eE] at h
  cases eF : l == [40] with
  | true =>
    rw [eF] at h
    cases h
    rw [eq_of_beq eF]
    exact pure_of_vcW mixed TFd_sound (Eq.mp (by kernel_rfl) (fitF_vc _ rfl) : vcFnW Tryz.prog TFd 88 .auto [agE bar0, slE ([40] : List Int), .i 0] (fitR [0] true))
  | false =>
  rw [eF] at h
  cases h
theorem fits_T : PureT Tryz.prog [] 88 fits_t := by
  intro xs ps r h hp
  unfold fits_t at h
  split at h
  · rename_i x y k
    split at h
    · rename_i l ok hf
      cases h
      have h1 : agOk Bar x = true := hp _ List.mem_cons_self
      have h2 : slOk Int y = true := hp _ (List.mem_cons_of_mem _ List.mem_cons_self)
      have h3 : agD x = bar0 := of_decide_eq_true (hp _ (List.mem_cons_of_mem _ (List.mem_cons_of_mem _ List.mem_cons_self)))
      have h4 : k = 0 := eq_of_beq (hp _ (List.mem_cons_of_mem _ (List.mem_cons_of_mem _ (List.mem_cons_of_mem _ List.mem_cons_self))))
      subst h4
      exact weaken (ys := [_, _, _]) ⟨h3 ▸ agE_sound h1, slE_sound h2, avM_refl _, trivial⟩ (fitC_T hf)
    · cases h
  · cases h
noncomputable def TK : Tb := (T0.plus 70 (cloneP_t 1 8)).deepX Tryz.prog [70] 3
theorem TK_sound : TbSound Tryz.prog TK := TbSound.deepX mixed (TbSound.plus tb0_sound cloneP_T) [70] 3
noncomputable def T2 : Tb := (T1.plus 88 fits_t).ownAt Tryz.prog 69 TK .auto
theorem T2_sound : TbSound Tryz.prog T2 := TbSound.ownAt mixed (TbSound.plus T1_sound fits_T) TK_sound rfl 69 .auto
end Go.Tz
