/- The example of the chapter: First and Exact at it. -/
import Derived.Test.YtojonobehnbeiaaGreatDoorTzD
import Derived.Test.YtojonobehnbeiaaGreatDoorTzP
namespace Go.Tz
open Go Go.Sx Go.Proofs
set_option maxRecDepth 100000
set_option maxHeartbeats 4000000
def pieces0 : List Cut := [⟨60, 120, 60, [0]⟩, ⟨60, 120, 50, [1]⟩, ⟨60, 120, 40, [2]⟩]
def usedA : List Used := [⟨0, [0, 2], [0, 60]⟩, ⟨0, [1], [0]⟩]
noncomputable def D0 : Tb := Tb.deepX Tryz.prog T2 [88, 69] 14
theorem D0_sound : TbSound Tryz.prog D0 := TbSound.deepX mixed T2_sound [88, 69] 14
theorem first_vc  : ((((True ∧ True) ∧ True) ∧ ((True ∧ True) ∧ (True ∧ True) ∧ True) ∧ True ∧ True ∧ True) ∧ ((True ∧ True) ∧ True) ∧ ((True ∧ True) ∧ (True ∧ True) ∧ True) ∧ True ∧ True ∧ True) ∧ ((True ∧ True) ∧ True) ∧ ((True ∧ True) ∧ (True ∧ True) ∧ True) ∧ True ∧ True ∧ True := by
  simp only [and_self]
theorem exact_vc  : (True ∧ True) ∧ True ∧ True := by
  simp only [and_self]
theorem first_C : PureCall Tryz.prog [] 17 [slE pieces0, slE [bar0], .i 0] (.tup 2 (listFn [slE usedA, .i 0])) :=
  pure_of_vcC mixed D0_sound chkSl_avM (Eq.mp (by kernel_rfl) first_vc : vcFnC Tryz.prog D0 17 .auto [slE pieces0, slE [bar0], .i 0] (chkSl usedA 0))
theorem exact_C : PureCall Tryz.prog [] 11 [slE pieces0, slE [bar0], .i 0] (.tup 2 (listFn [slE usedA, .i 0])) :=
  pure_of_vcC mixed D0_sound chkSl_avM (Eq.mp (by kernel_rfl) exact_vc : vcFnC Tryz.prog D0 11 .auto [slE pieces0, slE [bar0], .i 0] (chkSl usedA 0))
end Go.Tz

/- The example of the chapter, whole. -/
namespace Go.Tz
open Go Go.Sx Go.Proofs
set_option maxRecDepth 100000
set_option maxHeartbeats 4000000
def chkII (m n : Int) : AV → Bool
  | .tup 2 vs => (match vs 0 with | .v (.int .i64 a) => a == m | _ => false) && (match vs 1 with | .v (.int .i64 a) => a == n | _ => false)
  | _ => false
theorem chkII_avM {m n : Int} (x : AV) (h : chkII m n x = true) : avM x (.tup 2 (listFn [.i m, .i n])) := by
  unfold chkII at h
  split at h
  · rename_i vs
    simp only [Bool.and_eq_true] at h
    refine ⟨rfl, allB_of fun i hi => ?_⟩
    match i, hi with
    | 0, _ =>
      show avM (vs 0) (.i m)
      have h1 := h.1
      split at h1
      · rename_i a ha; rw [ha, eq_of_beq h1]; exact avM_refl _
      · cases h1
    | 1, _ =>
      show avM (vs 1) (.i n)
      have h1 := h.2
      split at h1
      · rename_i a ha; rw [ha, eq_of_beq h1]; exact avM_refl _
      · cases h1
  · cases h
theorem costA_vc  : True := by
  simp only [and_self]
theorem wasteA_vc  : True := by
  simp only [and_self]
theorem cost_C : PureCall Tryz.prog [] 12 [slE [bar0], slE usedA] (.tup 2 (listFn [.i 14, .i 0])) :=
  pure_of_vcC mixed D0_sound chkII_avM (Eq.mp (by kernel_rfl) costA_vc : vcFnC Tryz.prog D0 12 .auto [slE [bar0], slE usedA] (chkII 14 0))
theorem waste_C : PureCall Tryz.prog [] 20 [slE pieces0, slE [bar0], slE usedA] (.tup 2 (listFn [.i 50, .i 0])) :=
  pure_of_vcC mixed D0_sound chkII_avM (Eq.mp (by kernel_rfl) wasteA_vc : vcFnC Tryz.prog D0 20 .auto [slE pieces0, slE [bar0], slE usedA] (chkII 50 0))
def isP (x : AV) : Bool := slOk Cut x && decide (slD x = pieces0)
def isB (x : AV) : Bool := slOk Bar x && decide (slD x = [bar0])
def isU (x : AV) : Bool := slOk Used x && decide (slD x = usedA)
theorem isP_avM {x : AV} (h : isP x = true) : avM x (slE pieces0) := by
  simp only [isP, Bool.and_eq_true, decide_eq_true_eq] at h
  exact h.2 ▸ slE_sound h.1
theorem isB_avM {x : AV} (h : isB x = true) : avM x (slE [bar0]) := by
  simp only [isB, Bool.and_eq_true, decide_eq_true_eq] at h
  exact h.2 ▸ slE_sound h.1
theorem isU_avM {x : AV} (h : isU x = true) : avM x (slE usedA) := by
  simp only [isU, Bool.and_eq_true, decide_eq_true_eq] at h
  exact h.2 ▸ slE_sound h.1
def nest_t : List AV → Option (List Cond × AV)
  | [x, y, .v (.int .i64 k)] => some ([.b (isP x), .b (isB y), .b (k == 0)], .tup 2 (listFn [slE usedA, .i 0]))
  | _ => none
theorem nest_T {f : FuncId} (hC : PureCall Tryz.prog [] f [slE pieces0, slE [bar0], .i 0] (.tup 2 (listFn [slE usedA, .i 0]))) : PureT Tryz.prog [] f nest_t := by
  intro xs ps r h hp
  unfold nest_t at h
  split at h
  · rename_i x y k
    cases h
    have h1 : isP x = true := hp _ List.mem_cons_self
    have h2 : isB y = true := hp _ (List.mem_cons_of_mem _ List.mem_cons_self)
    have h3 : k = 0 := eq_of_beq (hp _ (List.mem_cons_of_mem _ (List.mem_cons_of_mem _ List.mem_cons_self)))
    subst h3
    exact weaken (ys := [_, _, _]) ⟨isP_avM h1, isB_avM h2, avM_refl _, trivial⟩ hC
  · cases h
def costA_t : List AV → Option (List Cond × AV)
  | [x, y] => some ([.b (isB x), .b (isU y)], .tup 2 (listFn [.i 14, .i 0]))
  | _ => none
theorem cost_T : PureT Tryz.prog [] 12 costA_t := by
  intro xs ps r h hp
  unfold costA_t at h
  split at h
  · rename_i x y
    cases h
    exact weaken (ys := [_, _]) ⟨isB_avM (hp _ List.mem_cons_self), isU_avM (hp _ (List.mem_cons_of_mem _ List.mem_cons_self)), trivial⟩ cost_C
  · cases h
def waste_t : List AV → Option (List Cond × AV)
  | [x, y, z] => some ([.b (isP x), .b (isB y), .b (isU z)], .tup 2 (listFn [.i 50, .i 0]))
  | _ => none
theorem waste_T : PureT Tryz.prog [] 20 waste_t := by
  intro xs ps r h hp
  unfold waste_t at h
  split at h
  · rename_i x y z
    cases h
    exact weaken (ys := [_, _, _]) ⟨isP_avM (hp _ List.mem_cons_self), isB_avM (hp _ (List.mem_cons_of_mem _ List.mem_cons_self)), isU_avM (hp _ (List.mem_cons_of_mem _ (List.mem_cons_of_mem _ List.mem_cons_self))), trivial⟩ waste_C
  · cases h
def txA : List UInt8 := [48, 32, 48, 64, 48, 32, 50, 64, 54, 48, 10, 48, 32, 49, 64, 48, 10]
theorem itoa_one {i : Nat} (h : i < 10) : Lib.itoa (i : Int) = [UInt8.ofNat (48 + i)] := by
  rw [itoa_nn (by omega), Int.toNat_natCast, Lib.decDigits_one h]
theorem itoa_60 : Lib.itoa 60 = [54, 48] := by
  rw [itoa_nn (by omega), show (60 : Int).toNat = 60 from rfl, Lib.decDigits_two (by omega) (by omega)]; decide
theorem printA : printS usedA = txA ∧ printE usedA = 0 := by
  have e : printE usedA = 0 := by decide
  refine ⟨?_, e⟩
  unfold printS
  rw [e]
  show usedTx usedA 2 = txA
  have i0 : Lib.itoa 0 = [48] := itoa_one (i := 0) (by omega)
  have i1 : Lib.itoa 1 = [49] := itoa_one (i := 1) (by omega)
  have i2 : Lib.itoa 2 = [50] := itoa_one (i := 2) (by omega)
  simp [usedTx, barTx, psTx, pairTx, usedA, i0, i1, i2, itoa_60, txA]
theorem inA : InR usedA := by
  intro i
  match i with
  | 0 => exact ⟨by simp [usedA, inK], fun j => by
      match j with
      | 0 => simp [usedA, inK]
      | 1 => simp [usedA, inK]
      | j + 2 => simp [usedA, inK]⟩
  | 1 => exact ⟨by simp [usedA, inK], fun j => by
      match j with
      | 0 => simp [usedA, inK]
      | j + 1 => simp [usedA, inK]⟩
  | i + 2 => exact ⟨by simp [usedA, inK, Enc.dflt], fun j => by simp [usedA, inK, Enc.dflt]⟩
def printA_t : List AV → Option (List Cond × AV)
  | [x] => some ([.b (isU x)], .tup 2 (listFn [.str txA, .i 0]))
  | _ => none
theorem printA_T {G : List (Nat × Obj)} (hG : TabIn G) : PureT Tryz.prog G 25 printA_t := by
  intro xs ps r h hp
  unfold printA_t at h
  split at h
  · rename_i x
    cases h
    have := print_C hG usedA inA
    rw [printA.1, printA.2] at this
    exact weaken (ys := [_]) ⟨isU_avM (hp _ List.mem_cons_self), trivial⟩ this
  · cases h
def sameA_t : List AV → Option (List Cond × AV)
  | [x, y] => some ([.b (isU x), .b (isU y)], .b true)
  | _ => none
theorem sameA_T : PureT Tryz.prog [] 18 sameA_t := by
  intro xs ps r h hp
  unfold sameA_t at h
  split at h
  · rename_i x y
    cases h
    have := same_C usedA usedA
    rw [show decide (usedA = usedA) = true from decide_eq_true rfl] at this
    exact weaken (ys := [_, _]) ⟨isU_avM (hp _ List.mem_cons_self), isU_avM (hp _ (List.mem_cons_of_mem _ List.mem_cons_self)), trivial⟩ this
  · cases h
noncomputable def TA0 (G : List (Nat × Obj)) : Tb := ((((((tb0 G).plus 17 nest_t).plus 11 nest_t).plus 12 costA_t).plus 20 waste_t).plus 25 printA_t).plus 18 sameA_t
theorem TA0_sound {G : List (Nat × Obj)} (hG : TabIn G) : TbSound Tryz.prog (TA0 G) :=
  TbSound.plus (TbSound.plus (TbSound.plus (TbSound.plus (TbSound.plus (TbSound.plus tb0_sound (PureT.mono (nest_T first_C))) (PureT.mono (nest_T exact_C))) (PureT.mono cost_T)) (PureT.mono waste_T)) (printA_T hG)) (PureT.mono sameA_T)
noncomputable def TA (G : List (Nat × Obj)) : Tb := (TA0 G).deepX Tryz.prog [17, 11, 12, 20, 25, 18] 3
theorem TA_sound {G : List (Nat × Obj)} (hG : TabIn G) : TbSound Tryz.prog (TA G) := TbSound.deepX mixed (TA0_sound hG) _ 3
theorem awake_vc (G : List (Nat × Obj)) : True := by
  simp only [and_self]
theorem awake_C {G : List (Nat × Obj)} (hG : TabIn G) : PureCall Tryz.prog G 10 [] (.b true) := by
  have := pure_of_vcC mixed (TA_sound hG) chkB_avM (Eq.mp (by kernel_rfl) (awake_vc G) : vcFnC Tryz.prog (TA G) 10 .auto [] (chkB true))
  rwa [show (TA G).objs = G from deepX_objs _ _ _ _] at this
end Go.Tz
