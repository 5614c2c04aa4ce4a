/- Contracts of small functions of the package span and its reference. -/
import Derived.Test.YtdkpceodckdcfaaGreatDoorArH
import Derived.Test.YtdkpceodckdcfaaGreatDoorProg
import Derived.Shelf.Strconv.Itoa3
import Derived.Shelf.Strings.Search2
import Derived.Shelf.LaysM
import Derived.Test.YtdkpceodckdcfaaGreatDoorSxS
set_option linter.unusedSimpArgs false
namespace Go.Te
open Go Go.Sx Go.Proofs Go.Ar
set_option maxRecDepth 100000
set_option maxHeartbeats 4000000
theorem mixed : Tryz.prog.follows .mixedOrders = true := by kernel_rfl
abbrev T0 : Tb := tb0 []
theorem deep0 (n : Nat) : TbSound Tryz.prog (T0.deep Tryz.prog n) := TbSound.deep mixed tb0_sound n
def within_t : List AV → Option (List Cond × AV)
  | [.v (.int .i64 n), .v (.int .i64 a), .v (.int .i64 b)] => some ([], .b (between n a b))
  | _ => none
theorem within_vc (n : Int) (a : Int) (b : Int) :
 bndL [AV.v (Value.int .i64 n), AV.v (Value.int .i64 a), AV.v (Value.int .i64 b)] → bsplit (!bsel true (leB a n) || bsel true (leB a n)) (bsplit (!bsel true (leB a n) || bsel true (leB a n)) (bsplit (!leB a n || bsel true (leB a n)) ((bif leB a n then leB n b else false) = between n a b) False) False) False := by
  intro _
  unfold between
  simp only [bsel_true, vc_own, ge_iff_le, leB_eq, vc_grd]; grind
theorem within_C (n : Int) (a : Int) (b : Int) : PureCall Tryz.prog [] 75 [.i n, .i a, .i b] (.b (between n a b)) :=
  pure_of_vc mixed tb0_sound (Eq.mp (by kernel_rfl) (within_vc n a b) : vcFn Tryz.prog T0 75 .auto [.i n, .i a, .i b] (.b (between n a b)))
theorem within_T : PureT Tryz.prog [] 75 within_t := by
  intro xs ps r h hp
  unfold within_t at h
  split at h
  · skip
    rename_i n a b
    cases h
    exact weaken (ys := [.i n, .i a, .i b]) ⟨avM_refl _, avM_refl _, avM_refl _, trivial⟩ (within_C n a b)
  · cases h
def TA1 : Tb := T0.plus 75 within_t
theorem TA1_sound : TbSound Tryz.prog TA1 := TbSound.plus tb0_sound within_T
def conds_t : List AV → Option (List Cond × AV)
  | [.v (.int .i64 s), .v (.int .i64 q)] => some ([], .b (condB s q))
  | _ => none
theorem conds_vc (s : Int) (q : Int) :
 bndL [AV.v (Value.int .i64 s), AV.v (Value.int .i64 q)] → bsplit (!bsel true (between s (1 : Int) (65536 : Int)) || bsel true (between s (1 : Int) (65536 : Int))) (bsplit (!between s (1 : Int) (65536 : Int) || bsel true (between s (1 : Int) (65536 : Int))) ((bif between s (1 : Int) (65536 : Int) then between q (0 : Int) (1048576 : Int) else false) = condB s q) False) False := by
  intro _
  unfold condB
  simp only [avM_refl, true_and, and_true, bsel_true, bsel_false, vc_own, bif_or, bif_and, vc_gdb, vc_db, vc_lt, vc_le, vc_ne, vc_eq, vc_tt, Int.toNat_natCast, Nat.zero_add, Nat.zero_le, Nat.sub_zero, int_i, Bool.or_true, cond_true, cond_false, agD_row, agOk_row, agD_row', agOk_row']
theorem conds_C (s : Int) (q : Int) : PureCall Tryz.prog [] 122 [.i s, .i q] (.b (condB s q)) :=
  pure_of_vc mixed TA1_sound (Eq.mp (by kernel_rfl) (conds_vc s q) : vcFn Tryz.prog TA1 122 .auto [.i s, .i q] (.b (condB s q)))
theorem conds_T : PureT Tryz.prog [] 122 conds_t := by
  intro xs ps r h hp
  unfold conds_t at h
  split at h
  · skip
    rename_i s q
    cases h
    exact weaken (ys := [.i s, .i q]) ⟨avM_refl _, avM_refl _, trivial⟩ (conds_C s q)
  · cases h
def TA2 : Tb := TA1.plus 122 conds_t
theorem TA2_sound : TbSound Tryz.prog TA2 := TbSound.plus TA1_sound conds_T
def ranged_t : List AV → Option (List Cond × AV)
  | [.v (.int .i64 w), .v (.int .i64 d), .v (.int .i64 s), .v (.int .i64 q)] => some ([], .b (rangB w d s q))
  | _ => none
theorem ranged_vc (w : Int) (d : Int) (s : Int) (q : Int) :
 let q2 := (bif between w (1 : Int) (1000 : Int) then between d (1 : Int) (1000 : Int) else false); let q1 := (!bsel true q2 || bsel true q2); bndL [AV.v (Value.int .i64 w), AV.v (Value.int .i64 d), AV.v (Value.int .i64 s), AV.v (Value.int .i64 q)] → bsplit (!bsel true (between w (1 : Int) (1000 : Int)) || bsel true (between w (1 : Int) (1000 : Int))) (bsplit (!between w (1 : Int) (1000 : Int) || bsel true (between w (1 : Int) (1000 : Int))) (bsplit q1 (bsplit q1 (bsplit ((!bif between w (1 : Int) (1000 : Int) then between d (1 : Int) (1000 : Int) else false) || bsel true q2) ((bif bif between w
 (1 : Int) (1000 : Int) then between d (1 : Int) (1000 : Int) else false then condB s q else false) = rangB w d s q) False) False) False) False) False := by
  dsimp only
  intro _
  unfold rangB
  simp only [avM_refl, true_and, and_true, bsel_true, bsel_false, vc_own, bif_or, bif_and, vc_gdb, vc_db, vc_lt, vc_le, vc_ne, vc_eq, vc_tt, Int.toNat_natCast, Nat.zero_add, Nat.zero_le, Nat.sub_zero, int_i, Bool.or_true, cond_true, cond_false, agD_row, agOk_row, agD_row', agOk_row']
theorem ranged_C (w : Int) (d : Int) (s : Int) (q : Int) : PureCall Tryz.prog [] 74 [.i w, .i d, .i s, .i q] (.b (rangB w d s q)) :=
  pure_of_vc mixed TA2_sound (Eq.mp (by kernel_rfl) (ranged_vc w d s q) : vcFn Tryz.prog TA2 74 .auto [.i w, .i d, .i s, .i q] (.b (rangB w d s q)))
theorem ranged_T : PureT Tryz.prog [] 74 ranged_t := by
  intro xs ps r h hp
  unfold ranged_t at h
  split at h
  · skip
    rename_i w d s q
    cases h
    exact weaken (ys := [.i w, .i d, .i s, .i q]) ⟨avM_refl _, avM_refl _, avM_refl _, avM_refl _, trivial⟩ (ranged_C w d s q)
  · cases h
def outside_t : List AV → Option (List Cond × AV)
  | [.v (.int .i64 n), .v (.int .i64 a), .v (.int .i64 b)] => some ([], .b (!between n a b))
  | _ => none
theorem outside_vc (n : Int) (a : Int) (b : Int) :
 bndL [AV.v (Value.int .i64 n), AV.v (Value.int .i64 a), AV.v (Value.int .i64 b)] → bsplit (!bsel false (ltB n a) || bsel false (ltB n a)) (bsplit (!bsel false (ltB n a) || bsel false (ltB n a)) (bsplit (!!ltB n a || bsel false (ltB n a)) ((bif ltB n a then true else ltB b n) = !between n a b) False) False) False := by
  intro _
  unfold between
  simp only [bsel_false, vc_grd, ltB_eq, leB_eq]; grind
theorem outside_C (n : Int) (a : Int) (b : Int) : PureCall Tryz.prog [] 63 [.i n, .i a, .i b] (.b (!between n a b)) :=
  pure_of_vc mixed tb0_sound (Eq.mp (by kernel_rfl) (outside_vc n a b) : vcFn Tryz.prog T0 63 .auto [.i n, .i a, .i b] (.b (!between n a b)))
theorem outside_T : PureT Tryz.prog [] 63 outside_t := by
  intro xs ps r h hp
  unfold outside_t at h
  split at h
  · skip
    rename_i n a b
    cases h
    exact weaken (ys := [.i n, .i a, .i b]) ⟨avM_refl _, avM_refl _, avM_refl _, trivial⟩ (outside_C n a b)
  · cases h
def TA3 : Tb := T0.plus 63 outside_t
theorem TA3_sound : TbSound Tryz.prog TA3 := TbSound.plus tb0_sound outside_T
def rconds_t : List AV → Option (List Cond × AV)
  | [.v (.int .i64 w), .v (.int .i64 d), .v (.int .i64 s), .v (.int .i64 q)] => some ([], .i (bif rangB w d s q then 0 else 2))
  | _ => none
theorem rconds_vc (w : Int) (d : Int) (s : Int) (q : Int) :
 let q1 := (bif !between w (1 : Int) (1000 : Int) then true else !between d (1 : Int) (1000 : Int)); let q2 := (bif bif !between w (1 : Int) (1000 : Int) then true else !between d (1 : Int) (1000 : Int) then true else !between s (1 : Int) (65536 : Int)); bndL [AV.v (Value.int .i64 w), AV.v (Value.int .i64 d), AV.v (Value.int .i64 s), AV.v (Value.int .i64 q)] → bsplit (!bsel false !between w (1 : Int) (1000 : Int) || bsel false !between w (1 : Int) (1000 : Int)) (bsplit (!!!between w (1 : Int) (1000 : Int) || bsel false !between w (1 : Int) (1000 : Int)) (bsplit (!bsel false q1 || bsel false q1)
 (bsplit ((!!bif !between w (1 : Int) (1000 : Int) then true else !between d (1 : Int) (1000 : Int)) || bsel false q1) (bsplit (!bsel false q2 || bsel false q2) (bsplit ((!!bif bif !between w (1 : Int) (1000 : Int) then true else !between d (1 : Int) (1000 : Int) then true else !between s (1 : Int) (65536 : Int)) || bsel false q2) (bsplit (bif bif bif !between w (1 : Int) (1000 : Int) then true else !between d (1 : Int) (1000 : Int) then true else !between s (1 : Int) (65536 : Int) then true else !between q (0 : Int) (1048576 : Int)) (IntKind.i64 = .i64 ∧ (2 : Int) = bif rangB w d s q then (0 :
 Int) else (2 : Int)) (IntKind.i64 = .i64 ∧ (0 : Int) = bif rangB w d s q then (0 : Int) else (2 : Int))) False) False) False) False) False) False := by
  dsimp only
  intro _
  unfold rangB condB
  simp only [avM_refl, true_and, and_true, bsel_true, bsel_false, vc_own, bif_or, bif_and, vc_gdb, vc_db, vc_lt, vc_le, vc_ne, vc_eq, vc_tt, Int.toNat_natCast, Nat.zero_add, Nat.zero_le, Nat.sub_zero, int_i, Bool.or_true, cond_true, cond_false, agD_row, agOk_row, agD_row', agOk_row']
  cases between w 1 1000 <;> cases between d 1 1000 <;> cases between s 1 65536 <;> cases between q 0 1048576 <;> trivial
theorem rconds_C (w : Int) (d : Int) (s : Int) (q : Int) : PureCall Tryz.prog [] 62 [.i w, .i d, .i s, .i q] (.i (bif rangB w d s q then 0 else 2)) :=
  pure_of_vc mixed TA3_sound (Eq.mp (by kernel_rfl) (rconds_vc w d s q) : vcFn Tryz.prog TA3 62 .auto [.i w, .i d, .i s, .i q] (.i (bif rangB w d s q then 0 else 2)))
theorem rconds_T : PureT Tryz.prog [] 62 rconds_t := by
  intro xs ps r h hp
  unfold rconds_t at h
  split at h
  · skip
    rename_i w d s q
    cases h
    exact weaken (ys := [.i w, .i d, .i s, .i q]) ⟨avM_refl _, avM_refl _, avM_refl _, avM_refl _, trivial⟩ (rconds_C w d s q)
  · cases h
def orF (g : Nat → Int) : Nat → Nat → Int
  | 0, _ => 0
  | n + 1, i => bif g i == 0 then orF g n (i + 1) else g i
theorem orF_skip {g : Nat → Int} : ∀ {k n : Nat}, k ≤ n → (∀ i, i < k → g i = 0) → orF g n 0 = orF g (n - k) k
  | 0, n, _, _ => by simp
  | k + 1, n, hk, h => by
    rw [orF_skip (k := k) (by omega) fun i hi => h i (by omega)]
    obtain ⟨m, hm⟩ : ∃ m, n - k = m + 1 := ⟨n - k - 1, by omega⟩
    rw [hm, orF, h k (by omega)]
    simp only [beq_self_eq_true, cond_true]
    congr 1
    omega
def or_an (len : Nat) (g : Nat → Int) : Ann :=
  .two .auto (.two .auto (.two (.two .auto (.one (.loop Nat (fun σ z => [(0, σ.tm 0), (3, .i 0), (6, σ.tm 0), (7, .i len), (8, .i z)]) (fun _ _ => []) 0 (fun _ z => z ≤ len ∧ ∀ i, i < z → g i = 0) (fun _ z => len - z) .auto))) .auto))
def allI (len : Nat) (els : Nat → Nat → AV) : Bool := allN (fun i => isI64 (els i 0)) len
theorem allI_avM {f : Bool} {len : Nat} {els : Nat → Nat → AV} (h : allI len els = true) : avM (.xl f 1 len els) (.xl f 1 len fun i _ => .i (AV.int (els i 0))) := by
  refine ⟨fun h => h, rfl, rfl, fun i j hi hj => ?_⟩
  obtain rfl : j = 0 := by omega
  exact avM_of_eq (isI64_eq (allN_true h i hi))
theorem or_vc (f : Bool) (len : Nat) (g : Nat → Int) :
 let q1 := (AV.xl f 1 len fun (i x : Nat) => AV.v (Value.int .i64 (g i))); let q2 := (IntKind.i64 = .i64 ∧ (0 : Int) = (0 : Int)); let q3 := (IntKind.i64 = .i64 ∧ (↑len : Int) = (↑len : Int)); bndL [AV.xl f 1 len fun (i x : Nat) => AV.v (Value.int .i64 (g i))] → (∃ (z : Nat), ((z ≤ len ∧ ∀ (i : Nat), i < z → g i = (0 : Int)) ∧ avM q1 q1 ∧ q2 ∧ avM q1 q1 ∧ q3 ∧ IntKind.i64 = .i64 ∧ (0 : Int) = (↑z : Int)) ∧ True) ∧ ∀ (z : Nat), (z ≤ len ∧ ∀ (i : Nat), i < z → g i = (0 : Int)) → bsplit (ltB (↑z : Int) (↑len : Int)) (bsplit (DB.db ((0 : Int) ≤ (↑z : Int) ∧ (↑z : Int) < (↑len : Int))) (bsplit (g
 (Int.toNat (↑z : Int)) != (0 : Int)) (IntKind.i64 = .i64 ∧ g (Int.toNat (↑z : Int)) = orF g len 0) (bsplit (DB.db (inK .i64 ((↑z : Int) + (1 : Int)))) (∃ (z' : Nat), (((z' ≤ len ∧ ∀ (i : Nat), i < z' → g i = (0 : Int)) ∧ len - z' < len - z) ∧ avM q1 q1 ∧ q2 ∧ avM q1 q1 ∧ q3 ∧ IntKind.i64 = .i64 ∧ (↑z : Int) + (1 : Int) = (↑z' : Int)) ∧ True) False)) False) (IntKind.i64 = .i64 ∧ (0 : Int) = orF g len 0) := by
  dsimp only
  intro hb
  replace hb := hb.1
  refine ⟨⟨0, ⟨⟨by omega, fun i hi => by omega⟩, avM_refl _, ⟨rfl, rfl⟩, avM_refl _, ⟨rfl, rfl⟩, rfl, rfl⟩, trivial⟩, ?_⟩
  rintro z ⟨h1, h2⟩
  simp only [vc_db, vc_lt, vc_ne]
  simp only [inK, Int.toNat_natCast]
  have hs := orF_skip h1 h2
  refine ⟨fun hlt => ⟨⟨by omega, by omega⟩, fun hz => ⟨trivial, ?_⟩, fun hz => ⟨by omega, z + 1, ⟨⟨⟨by omega, fun i hi => ?_⟩, by omega⟩, avM_refl _, ⟨trivial, trivial⟩, avM_refl _, ⟨trivial, trivial⟩, trivial, by omega⟩, trivial⟩⟩, fun hge => ⟨trivial, ?_⟩⟩
  · obtain ⟨m, hm⟩ : ∃ m, len - z = m + 1 := ⟨len - z - 1, by omega⟩
    rw [hs, hm, orF, show (g z == 0) = false from beq_eq_false_iff_ne.2 hz]
    rfl
  · by_cases e : i = z
    · rw [e]; exact hz
    · exact h2 i (by omega)
  · rw [hs, show len - z = 0 by omega]
    rfl
def or_t : List AV → Option (List Cond × AV)
  | [.xl _ 1 len els] => some ([.b (allI len els)], .i (orF (fun i => AV.int (els i 0)) len 0))
  | _ => none
theorem or_T : PureT Tryz.prog [] 114 or_t := by
  intro xs ps r h hp
  unfold or_t at h
  split at h
  · rename_i f len els
    cases h
    refine weaken (ys := [_]) ⟨allI_avM (hp _ List.mem_cons_self), trivial⟩ ?_
    exact pure_of_vc mixed tb0_sound (Eq.mp (by kernel_rfl) (or_vc f len fun i => AV.int (els i 0)) : vcFn Tryz.prog T0 114 (or_an len fun i => AV.int (els i 0)) [.xl f 1 len fun i _ => .i (AV.int (els i 0))] (.i (orF (fun i => AV.int (els i 0)) len 0)))
  · cases h
def smB (n : Int) : Bool := between n (-1073741824) 1073741824
def smR (a : Row) : Bool := smB a.w && smB a.d && smB a.s && smB a.q
theorem smR_iff {a : Row} (h : smR a = true) : (-1073741824 ≤ a.w ∧ a.w ≤ 1073741824) ∧ (-1073741824 ≤ a.d ∧ a.d ≤ 1073741824) ∧ (-1073741824 ≤ a.s ∧ a.s ≤ 1073741824) ∧ (-1073741824 ≤ a.q ∧ a.q ≤ 1073741824) := by
  unfold smR smB at h
  simp only [Bool.and_eq_true, between_iff] at h
  exact ⟨h.1.1.1, h.1.1.2, h.1.2, h.2⟩
theorem rang_sm {a : Row} (h : rangB a.w a.d a.s a.q = true) : smR a = true := by
  unfold rangB condB at h
  simp only [Bool.and_eq_true, between_iff] at h
  unfold smR smB
  simp only [Bool.and_eq_true, between_iff]
  omega
def TA4 : Tb := T0.plus 114 or_t
theorem TA4_sound : TbSound Tryz.prog TA4 := TbSound.plus tb0_sound or_T
def order_t : List AV → Option (List Cond × AV)
  | [x_a, x_b] => some ([.b (agOk Row x_a), .b (agOk Row x_b), .p (smR (agD (α := Row) x_a) = true), .p (smR (agD (α := Row) x_b) = true)], .i (ordR (agD (α := Row) x_a) (agD (α := Row) x_b)))
  | _ => none
theorem order_vc (a : Row) (b : Row) (h1 : smR a = true) (h2 : smR b = true) :
 bndL [AV.agg 5 (Enc.enc a), AV.agg 5 (Enc.enc b)] → bsplit (DB.db (inK .i64 (Row.w a - Row.w b))) (bsplit (DB.db (inK .i64 (Row.d a - Row.d b))) (bsplit (DB.db (inK .i64 (Row.s a - Row.s b))) (bsplit (DB.db (inK .i64 (Row.q a - Row.q b))) (IntKind.i64 = .i64 ∧ orF (fun (i : Nat) => AV.int (Sx.rowAt [fun (x : Nat) => AV.v (Value.int .i64 (Row.w a - Row.w b)), fun (x : Nat) => AV.v (Value.int .i64 (Row.d a - Row.d b)), fun (x : Nat) => AV.v (Value.int .i64 (Row.s a - Row.s b)), fun (x : Nat) => AV.v (Value.int .i64 (Row.q a - Row.q b))] i 0)) 4 0 = ordR a b) False) False) False) False := by
  intro _
  have g1 := smR_iff h1
  have g2 := smR_iff h2
  simp only [avM_refl, true_and, and_true, bsel_true, bsel_false, vc_own, bif_or, bif_and, vc_gdb, vc_db, vc_lt, vc_le, vc_ne, vc_eq, vc_tt, Int.toNat_natCast, Nat.zero_add, Nat.zero_le, Nat.sub_zero, int_i, Bool.or_true, cond_true, cond_false, agD_row, agOk_row, agD_row', agOk_row', okIn, okIn', deI, deI', okR, okR', deR, deR', deRo, deRo']
  refine ⟨⟨by omega, by omega⟩, ⟨by omega, by omega⟩, ⟨by omega, by omega⟩, ⟨by omega, by omega⟩, ?_⟩
  show (bif a.w - b.w == 0 then (bif a.d - b.d == 0 then (bif a.s - b.s == 0 then (bif a.q - b.q == 0 then (0 : Int) else a.q - b.q) else a.s - b.s) else a.d - b.d) else a.w - b.w) = ordR a b
  unfold ordR
  generalize a.w - b.w = x1
  generalize a.d - b.d = x2
  generalize a.s - b.s = x3
  generalize a.q - b.q = x4
  have e : ∀ (x A B : Int), (bif x == 0 then A else B) = bif x != 0 then B else A := fun x A B => by
    show _ = bif !(x == 0) then B else A
    cases x == 0 <;> rfl
  have e4 : (bif x4 == 0 then (0 : Int) else x4) = x4 := by
    cases h : x4 == 0 with
    | true => exact (eq_of_beq h).symm
    | false => rfl
  rw [e4, e, e, e]
theorem order_C (a : Row) (b : Row) (h1 : smR a = true) (h2 : smR b = true) : PureCall Tryz.prog [] 76 [agE a, agE b] (.i (ordR a b)) :=
  pure_of_vc mixed TA4_sound (Eq.mp (by kernel_rfl) (order_vc a b h1 h2) : vcFn Tryz.prog TA4 76 .auto [agE a, agE b] (.i (ordR a b)))
theorem order_T : PureT Tryz.prog [] 76 order_t := by
  intro xs ps r h hp
  unfold order_t at h
  split at h
  · skip
    rename_i x_a x_b
    cases h
    have q0 := hp _ List.mem_cons_self
    have q1 := hp _ (List.mem_cons_of_mem _ List.mem_cons_self)
    have q2 := hp _ (List.mem_cons_of_mem _ (List.mem_cons_of_mem _ List.mem_cons_self))
    have q3 := hp _ (List.mem_cons_of_mem _ (List.mem_cons_of_mem _ (List.mem_cons_of_mem _ List.mem_cons_self)))
    exact weaken (ys := [agE (agD (α := Row) x_a), agE (agD (α := Row) x_b)]) ⟨agE_sound q0, agE_sound q1, trivial⟩ (order_C (agD (α := Row) x_a) (agD (α := Row) x_b) q2 q3)
  · cases h
def TA5 : Tb := ((T0.plus 75 within_t).plus 74 ranged_t).plus 76 order_t
theorem TA5_sound : TbSound Tryz.prog TA5 := TbSound.plus (TbSound.plus (TbSound.plus tb0_sound within_T) ranged_T) order_T
def check_an (l : List Row) : Ann :=
  .two .auto (.two .auto (.two (.two .auto (.one (.loop Nat (fun σ z => [(0, σ.tm 0), (8, σ.tm 8), (9, σ.tm 9), (10, .i z)]) (fun σ z => []) 0 (fun σ z => z ≤ l.length ∧ ∀ i, i < z → rowE l i = 0) (fun σ z => l.length - z) .auto))) .auto))
def check_t : List AV → Option (List Cond × AV)
  | [x_l] => some ([.b (slOk Row x_l)], .i (tabE (rowsOf x_l)))
  | _ => none
theorem check_vc (l : List Row) :
 let q1 := (AV.xl false 5 (List.length l) fun i j => Enc.enc (List.getD l i Enc.dflt) j); let q2 := (IntKind.i64 = .i64 ∧ (↑(List.length l) : Int) = (↑(List.length l) : Int)); bndL [AV.xl false 5 (List.length l) fun i j => Enc.enc (List.getD l i Enc.dflt) j] → bsplit (ltB (4096 : Int) (↑(List.length l) : Int)) (IntKind.i64 = .i64 ∧ (4 : Int) = tabE l) ((∃ (z : Nat), ((z ≤ List.length l ∧ ∀ (i : Nat), i < z → rowE l i = (0 : Int)) ∧ avM q1 q1 ∧ avM q1 q1 ∧ q2 ∧ IntKind.i64 = .i64 ∧ (0 : Int) = (↑z : Int)) ∧ True) ∧ ∀ (z : Nat), let q5 := (List.getD l (Int.toNat (↑z : Int)) Enc.dflt); let q4 :=
 (Row.w q5); let q6 := (Row.d q5); let q7 := (Row.s q5); let q8 := (Row.q q5); let q3 := (!bsel false !rangB q4 q6 q7 q8 || bsel false !rangB q4 q6 q7 q8); let q9 := (!bsel true (ltB (0 : Int) (↑z : Int)) || bsel true (ltB (0 : Int) (↑z : Int))); let q10 := (AV.agg 5 fun (i : Nat) => Enc.enc (List.getD l (Int.toNat ((↑z : Int) - (1 : Int))) Enc.dflt) (0 + i)); let q11 := (AV.agg 5 fun (i : Nat) => if 0 ≤ 0 + i ∧ 0 + i < 5 then (fun i j => Enc.enc (List.getD l i Enc.dflt) j) (Int.toNat (↑z : Int)) (0 + (0 + i - 0)) else zcell (Value.agg #[Value.int .i64 (0 : Int), Value.int .i64 (0 : Int),
 Value.int .i64 (0 : Int), Value.int .i64 (0 : Int), Value.int .i64 (0 : Int)]) (0 + i)); let q12 := (agD q10); let q13 := (agD q11); (z ≤ List.length l ∧ ∀ (i : Nat), i < z → rowE l i = (0 : Int)) → bsplit (ltB (↑z : Int) (↑(List.length l) : Int)) (bsplit (DB.db ((0 : Int) ≤ (↑z : Int) ∧ (↑z : Int) < (↑(List.length l) : Int))) (bsplit q3 (bsplit q3 (bsplit q3 (bsplit (!!!rangB q4 q6 q7 q8 || bsel false !rangB q4 q6 q7 q8) (bsplit (bif !rangB q4 q6 q7 q8 then true else !between (Row.n q5) (1 : Int) (65536 : Int)) (IntKind.i64 = .i64 ∧ (2 : Int) = tabE l) (bsplit q9 (bsplit (!bsel true (ltB (0 :
 Int) (↑z : Int)) || DB.db (inK .i64 ((↑z : Int) - (1 : Int)))) (bsplit q9 (bsplit q9 (bsplit (!bsel true (ltB (0 : Int) (↑z : Int)) || DB.db ((0 : Int) ≤ (↑z : Int) - (1 : Int) ∧ (↑z : Int) - (1 : Int) < (↑(List.length l) : Int))) (bsplit q9 (bsplit q9 (bsplit q9 (bsplit (!bsel true (ltB (0 : Int) (↑z : Int)) || agOk Row q10) (bsplit (!bsel true (ltB (0 : Int) (↑z : Int)) || agOk Row q11) ((bsel true (ltB (0 : Int) (↑z : Int)) = true → smR q12 = true) ∧ (bsel true (ltB (0 : Int) (↑z : Int)) = true → smR q13 = true) ∧ bsplit q9 (bsplit (!ltB (0 : Int) (↑z : Int) || bsel true (ltB (0 : Int) (↑z :
 Int))) (bsplit (bif ltB (0 : Int) (↑z : Int) then leB (0 : Int) (ordR q12 q13) else false) (IntKind.i64 = .i64 ∧ (10 : Int) = tabE l) (bsplit (DB.db (inK .i64 ((↑z : Int) + (1 : Int)))) (∃ (z' : Nat), (((z' ≤ List.length l ∧ ∀ (i : Nat), i < z' → rowE l i = (0 : Int)) ∧ List.length l - z' < List.length l - z) ∧ avM q1 q1 ∧ avM q1 q1 ∧ q2 ∧ IntKind.i64 = .i64 ∧ (↑z : Int) + (1 : Int) = (↑z' : Int)) ∧ True) False)) False) False) False) False) False) False) False) False) False) False) False) False)) False) False) False) False) False) (IntKind.i64 = .i64 ∧ (0 : Int) = tabE l)) := by
  dsimp only
  intro hb
  have e2 : (Enc.dflt : Row) = r0 := rfl
  simp only [avM_refl, true_and, and_true, bsel_true, bsel_false, vc_own, bif_or, bif_and, vc_gdb, vc_db, vc_lt, vc_le, vc_ne, vc_eq, vc_tt, Int.toNat_natCast, Nat.zero_add, Nat.zero_le, Nat.sub_zero, int_i, Bool.or_true, cond_true, cond_false, agD_row, agOk_row, agD_row', agOk_row', okIn, okIn', deI, deI', okR, okR', deR, deR', deRo, deRo', e2, ltB_nat, pred_nat]
  refine ⟨fun h => by unfold tabE; rw [(blt_iff _ _).2 (by omega)]; rfl, fun h => ?_⟩
  have hT : tabE l = firstN (rowE l) l.length 0 := by
    unfold tabE
    rw [show Nat.blt 4096 l.length = false from Bool.eq_false_iff.2 fun e => by have := (blt_iff _ _).1 e; omega]
    rfl
  have hat : ∀ z v, z < l.length → (∀ i, i < z → rowE l i = 0) → rowE l z = v → v ≠ 0 → v = tabE l := fun z v hz z2 hv hv0 => by
    rw [hT, firstN_at (k := z) hz z2 (by rw [hv]; exact hv0), hv]
  refine ⟨⟨0, ⟨by omega, fun i hi => by omega⟩, rfl⟩, fun z ⟨z1, z2⟩ => ⟨fun hz => ⟨⟨by omega, hz⟩, bsplit_iff.2 ⟨fun c => ?_, fun c => ?_⟩⟩, fun hz => ?_⟩⟩
  · exact hat z 2 (by omega) z2 (by unfold rowE; rw [c]; rfl) (by decide)
  · have c' := c
    rw [Bool.or_eq_false_iff, Bool.not_eq_false', Bool.not_eq_false'] at c
    refine ⟨fun hp => ⟨by omega, by omega⟩, fun hp => ?_, fun hp => ?_, fun _ => rang_sm c.1, bsplit_iff.2 ⟨fun c2 => ?_, fun c2 => ⟨⟨by omega, by omega⟩, z + 1, ⟨⟨by omega, fun i hi => ?_⟩, by omega⟩, by omega⟩⟩⟩
    · have := (blt_iff _ _).1 hp; omega
    · have := (blt_iff _ _).1 hp
      exact rang_sm (rowE_ok (z2 (z - 1) (by omega))).1
    · exact hat z 10 (by omega) z2 (by unfold rowE; rw [c', c2]; rfl) (by decide)
    · by_cases e : i = z
      · rw [e]; unfold rowE; rw [c', c2]; rfl
      · exact z2 i (by omega)
  · rw [hT, firstN_none fun i hi => z2 i (by omega)]
theorem check_C (l : List Row) : PureCall Tryz.prog [] 24 [slE l] (.i (tabE l)) :=
  pure_of_vc mixed TA5_sound (Eq.mp (by kernel_rfl) (check_vc l) : vcFn Tryz.prog TA5 24 (check_an l) [slE l] (.i (tabE l)))
theorem check_T : PureT Tryz.prog [] 24 check_t := by
  intro xs ps r h hp
  unfold check_t at h
  split at h
  · skip
    rename_i x_l
    cases h
    have q0 := hp _ List.mem_cons_self
    exact weaken (ys := [slE (rowsOf x_l)]) ⟨slE_sound q0, trivial⟩ (check_C (rowsOf x_l))
  · cases h
def befB (a b : Row) : Bool := bif a.w != b.w then ltB a.w b.w else bif a.d != b.d then ltB a.d b.d else bif a.s != b.s then ltB a.s b.s else ltB a.q b.q
theorem bef_ord (a b : Row) : befB a b = !leB 0 (ordR a b) := by
  have key : ∀ x y : Int, ltB x y = !leB 0 (x - y) := fun x y => by
    unfold leB
    rw [Bool.not_not, Bool.eq_iff_iff, ltB_iff, ltB_iff]; omega
  have ne : ∀ x y : Int, (x - y != 0) = (x != y) := fun x y => by
    rw [Bool.eq_iff_iff, bne_iff_ne, bne_iff_ne]; omega
  unfold befB ordR
  rw [ne, ne, ne]
  cases a.w != b.w with
  | true => exact key _ _
  | false =>
  cases a.d != b.d with
  | true => exact key _ _
  | false =>
  cases a.s != b.s with
  | true => exact key _ _
  | false => exact key _ _
def before_t : List AV → Option (List Cond × AV)
  | [x_a, x_b] => some ([.b (agOk Row x_a), .b (agOk Row x_b)], .b (befB (agD (α := Row) x_a) (agD (α := Row) x_b)))
  | _ => none
theorem before_vc (a : Row) (b : Row) :
 bndL [AV.agg 5 (Enc.enc a), AV.agg 5 (Enc.enc b)] → bsplit (Row.w a != Row.w b) (ltB (Row.w a) (Row.w b) = befB a b) (bsplit (Row.d a != Row.d b) (ltB (Row.d a) (Row.d b) = befB a b) (bsplit (Row.s a != Row.s b) (ltB (Row.s a) (Row.s b) = befB a b) (ltB (Row.q a) (Row.q b) = befB a b))) := by
  intro _
  unfold befB
  simp only [avM_refl, true_and, and_true, bsel_true, bsel_false, vc_own, bif_or, bif_and, vc_gdb, vc_db, vc_lt, vc_le, vc_ne, vc_eq, vc_tt, Int.toNat_natCast, Nat.zero_add, Nat.zero_le, Nat.sub_zero, int_i, Bool.or_true, cond_true, cond_false, agD_row, agOk_row, agD_row', agOk_row', okIn, okIn', deI, deI', okR, okR', deR, deR', deRo, deRo']
  refine ⟨fun h => by rw [bne_iff_ne.2 h]; rfl, fun h => ?_⟩
  rw [show (a.w != b.w) = false from bne_eq_false_iff_eq.2 h]
  refine ⟨fun h => by rw [bne_iff_ne.2 h]; rfl, fun h => ?_⟩
  rw [show (a.d != b.d) = false from bne_eq_false_iff_eq.2 h]
  refine ⟨fun h => by rw [bne_iff_ne.2 h]; rfl, fun h => ?_⟩
  rw [show (a.s != b.s) = false from bne_eq_false_iff_eq.2 h]
  rfl
theorem before_C (a : Row) (b : Row) : PureCall Tryz.prog [] 64 [agE a, agE b] (.b (befB a b)) :=
  pure_of_vc mixed tb0_sound (Eq.mp (by kernel_rfl) (before_vc a b) : vcFn Tryz.prog T0 64 .auto [agE a, agE b] (.b (befB a b)))
theorem before_T : PureT Tryz.prog [] 64 before_t := by
  intro xs ps r h hp
  unfold before_t at h
  split at h
  · skip
    rename_i x_a x_b
    cases h
    have q0 := hp _ List.mem_cons_self
    have q1 := hp _ (List.mem_cons_of_mem _ List.mem_cons_self)
    exact weaken (ys := [agE (agD (α := Row) x_a), agE (agD (α := Row) x_b)]) ⟨agE_sound q0, agE_sound q1, trivial⟩ (before_C (agD (α := Row) x_a) (agD (α := Row) x_b))
  · cases h
def TA6 : Tb := ((T0.plus 63 outside_t).plus 62 rconds_t).plus 64 before_t
theorem TA6_sound : TbSound Tryz.prog TA6 := TbSound.plus (TbSound.plus (TbSound.plus tb0_sound outside_T) rconds_T) before_T
def rcheck_an (l : List Row) : Ann :=
  .two .auto (.two .auto (.two (.two .auto (.one (.loop Nat (fun σ z => [(0, σ.tm 0), (3, .i z)]) (fun σ z => []) 0 (fun σ z => z ≤ l.length ∧ ∀ i, i < z → rowE l i = 0) (fun σ z => l.length - z) .auto))) .auto))
def rcheck_t : List AV → Option (List Cond × AV)
  | [x_l] => some ([.b (slOk Row x_l)], .i (tabE (rowsOf x_l)))
  | _ => none
theorem rcheck_vc (l : List Row) :
 let q1 := (AV.xl false 5 (List.length l) fun i j => Enc.enc (List.getD l i Enc.dflt) j); bndL [AV.xl false 5 (List.length l) fun i j => Enc.enc (List.getD l i Enc.dflt) j] → bsplit (ltB (4096 : Int) (↑(List.length l) : Int)) (IntKind.i64 = .i64 ∧ (4 : Int) = tabE l) ((∃ (z : Nat), ((z ≤ List.length l ∧ ∀ (i : Nat), i < z → rowE l i = (0 : Int)) ∧ avM q1 q1 ∧ IntKind.i64 = .i64 ∧ (0 : Int) = (↑z : Int)) ∧ True) ∧ ∀ (z : Nat), let q3 := ((0 : Int) ≤ (↑z : Int) ∧ (↑z : Int) < (↑(List.length l) : Int)); let q2 := (DB.db q3); let q7 := (List.getD l (Int.toNat (↑z : Int)) Enc.dflt); let q6 := (bif
 rangB (Row.w q7) (Row.d q7) (Row.s q7) (Row.q q7) then (0 : Int) else (2 : Int)); let q5 := (q6 != (0 : Int)); let q4 := (!bsel false q5 || bsel false q5); let q8 := (!bsel true (ltB (0 : Int) (↑z : Int)) || bsel true (ltB (0 : Int) (↑z : Int))); let q9 := (AV.agg 5 fun (i : Nat) => Enc.enc (List.getD l (Int.toNat ((↑z : Int) - (1 : Int))) Enc.dflt) (0 + i)); let q10 := (AV.agg 5 fun (i : Nat) => Enc.enc q7 (0 + i)); (z ≤ List.length l ∧ ∀ (i : Nat), i < z → rowE l i = (0 : Int)) → bsplit (ltB (↑z : Int) (↑(List.length l) : Int)) (bsplit q2 (bsplit q2 (bsplit q2 (bsplit q2 (bsplit q4 (bsplit q4
 (bsplit (!bsel false q5 || DB.db q3) (bsplit q4 (bsplit q4 (bsplit q4 (bsplit (!!q6 != (0 : Int) || bsel false q5) (bsplit (bif q6 != (0 : Int) then true else !between (Row.n q7) (1 : Int) (65536 : Int)) (IntKind.i64 = .i64 ∧ (2 : Int) = tabE l) (bsplit q8 (bsplit (!bsel true (ltB (0 : Int) (↑z : Int)) || DB.db (inK .i64 ((↑z : Int) - (1 : Int)))) (bsplit q8 (bsplit q8 (bsplit (!bsel true (ltB (0 : Int) (↑z : Int)) || DB.db ((0 : Int) ≤ (↑z : Int) - (1 : Int) ∧ (↑z : Int) - (1 : Int) < (↑(List.length l) : Int))) (bsplit q8 (bsplit q8 (bsplit q8 (bsplit (!bsel true (ltB (0 : Int) (↑z : Int)) ||
 DB.db q3) (bsplit q8 (bsplit q8 (bsplit q8 (bsplit (!bsel true (ltB (0 : Int) (↑z : Int)) || agOk Row q9) (bsplit (!bsel true (ltB (0 : Int) (↑z : Int)) || agOk Row q10) (bsplit q8 (bsplit (!ltB (0 : Int) (↑z : Int) || bsel true (ltB (0 : Int) (↑z : Int))) (bsplit (bif ltB (0 : Int) (↑z : Int) then !befB (agD q9) (agD q10) else false) (IntKind.i64 = .i64 ∧ (10 : Int) = tabE l) (bsplit (DB.db (inK .i64 ((↑z : Int) + (1 : Int)))) (∃ (z' : Nat), (((z' ≤ List.length l ∧ ∀ (i : Nat), i < z' → rowE l i = (0 : Int)) ∧ List.length l - z' < List.length l - z) ∧ avM q1 q1 ∧ IntKind.i64 = .i64 ∧ (↑z :
 Int) + (1 : Int) = (↑z' : Int)) ∧ True) False)) False) False) False) False) False) False) False) False) False) False) False) False) False) False) False) False)) False) False) False) False) False) False) False) False) False) False) False) (IntKind.i64 = .i64 ∧ (0 : Int) = tabE l)) := by
  dsimp only
  intro hb
  have e2 : (Enc.dflt : Row) = r0 := rfl
  have e3 : ∀ t : Bool, ((bif t then (0 : Int) else 2) != 0) = !t := fun t => by cases t <;> rfl
  simp only [avM_refl, true_and, and_true, bsel_true, bsel_false, vc_own, bif_or, bif_and, vc_gdb, vc_db, vc_lt, vc_le, vc_ne, vc_eq, vc_tt, Int.toNat_natCast, Nat.zero_add, Nat.zero_le, Nat.sub_zero, int_i, Bool.or_true, cond_true, cond_false, agD_row, agOk_row, agD_row', agOk_row', okIn, okIn', deI, deI', okR, okR', deR, deR', deRo, deRo', e2, ltB_nat, pred_nat, bef_ord, e3, Bool.not_not]
  refine ⟨fun h => by unfold tabE; rw [(blt_iff _ _).2 (by omega)]; rfl, fun h => ?_⟩
  have hT : tabE l = firstN (rowE l) l.length 0 := by
    unfold tabE
    rw [show Nat.blt 4096 l.length = false from Bool.eq_false_iff.2 fun e => by have := (blt_iff _ _).1 e; omega]
    rfl
  have hat : ∀ z v, z < l.length → (∀ i, i < z → rowE l i = 0) → rowE l z = v → v ≠ 0 → v = tabE l := fun z v hz z2 hv hv0 => by
    rw [hT, firstN_at (k := z) hz z2 (by rw [hv]; exact hv0), hv]
  refine ⟨⟨0, ⟨by omega, fun i hi => by omega⟩, rfl⟩, fun z ⟨z1, z2⟩ => ⟨fun hz => ?_, fun hz => ?_⟩⟩
  · have hin : (0 : Int) ≤ (z : Int) ∧ (z : Int) < (l.length : Int) := ⟨by omega, hz⟩
    refine ⟨hin, hin, hin, hin, fun _ => hin, bsplit_iff.2 ⟨fun c => ?_, fun c => ?_⟩⟩
    · exact hat z 2 (by omega) z2 (by unfold rowE; rw [c]; rfl) (by decide)
    · refine ⟨fun hp => ⟨by omega, by omega⟩, fun hp => ?_, fun _ => hin, bsplit_iff.2 ⟨fun c2 => ?_, fun c2 => ⟨⟨by omega, by omega⟩, z + 1, ⟨⟨by omega, fun i hi => ?_⟩, by omega⟩, by omega⟩⟩⟩
      · have := (blt_iff _ _).1 hp; omega
      · exact hat z 10 (by omega) z2 (by unfold rowE; rw [c, c2]; rfl) (by decide)
      · by_cases e : i = z
        · rw [e]; unfold rowE; rw [c, c2]; rfl
        · exact z2 i (by omega)
  · rw [hT, firstN_none fun i hi => z2 i (by omega)]
theorem rcheck_C (l : List Row) : PureCall Tryz.prog [] 20 [slE l] (.i (tabE l)) :=
  pure_of_vc mixed TA6_sound (Eq.mp (by kernel_rfl) (rcheck_vc l) : vcFn Tryz.prog TA6 20 (rcheck_an l) [slE l] (.i (tabE l)))
theorem rcheck_T : PureT Tryz.prog [] 20 rcheck_t := by
  intro xs ps r h hp
  unfold rcheck_t at h
  split at h
  · skip
    rename_i x_l
    cases h
    have q0 := hp _ List.mem_cons_self
    exact weaken (ys := [slE (rowsOf x_l)]) ⟨slE_sound q0, trivial⟩ (rcheck_C (rowsOf x_l))
  · cases h
end Go.Te

set_option linter.unusedSimpArgs false
namespace Go.Te
open Go Go.Sx Go.Proofs Go.Ar
set_option maxRecDepth 100000
set_option maxHeartbeats 4000000
structure AlS where
  i : Nat
  n : Int
def allowed_it (l : List Row) (w d s q : Int) : Ann :=
  .two .auto (.one (.loop Nat (fun σ z => [(0, σ.tm 0), (2, σ.tm 2), (3, σ.tm 3), (4, σ.tm 4), (5, σ.tm 5), (9, σ.tm 9), (10, σ.tm 10), (11, .i z)]) (fun _ z => [(0, .box 3 1 fun _ => .i (findZ l w d s q z))]) 0
    (fun _ z => z ≤ l.length) (fun _ z => l.length - z) .auto))
def allowed_an (l : List Row) (w d s q : Int) : Ann :=
  .two .auto (.two .auto (.two (.two .auto (.one (.range (allowed_it l w d s q) .auto .auto))) .auto))
noncomputable def TB1 : Tb := T0.body Tryz.prog [(111, .auto)]
theorem TB1_sound : TbSound Tryz.prog TB1 := TbSound.body mixed tb0_sound _
def allowed_t : List AV → Option (List Cond × AV)
  | [x_l, .v (.int .i64 w), .v (.int .i64 d), .v (.int .i64 s), .v (.int .i64 q)] => some ([.b (slOk Row x_l)], .i (findR (rowsOf x_l) w d s q))
  | _ => none
theorem allowed_vc (l : List Row) (w : Int) (d : Int) (s : Int) (q : Int) :
 let q1 := (AV.xl false 5 (List.length l) fun i j => Enc.enc (List.getD l i Enc.dflt) j); let q2 := (IntKind.i64 = .i64 ∧ (↑(List.length l) : Int) = (↑(List.length l) : Int)); bndL [AV.xl false 5 (List.length l) fun i j => Enc.enc (List.getD l i Enc.dflt) j, AV.v (Value.int .i64 w), AV.v (Value.int .i64 d), AV.v (Value.int .i64 s), AV.v (Value.int .i64 q)] → (∃ (z : Nat), (z ≤ List.length l ∧ nat_lit 6 = 6 ∧ (nat_lit 2 = 2 ∧ 0 = 0) ∧ (nat_lit 3 = 3 ∧ 0 = 0) ∧ (nat_lit 4 = 4 ∧ 0 = 0) ∧ (nat_lit 5 = 5 ∧ 0 = 0) ∧ avM q1 q1 ∧ q2 ∧ IntKind.i64 = .i64 ∧ (0 : Int) = (↑z : Int)) ∧ (((((((3 : TypeId) = 3
 ∧ 1 = 1 ∧ IntKind.i64 = .i64 ∧ (0 : Int) = findZ l w d s q z) ∧ 22 = 22 ∧ 1 = 1 ∧ avM q1 q1) ∧ 3 = 3 ∧ 1 = 1 ∧ IntKind.i64 = .i64 ∧ w = w) ∧ 3 = 3 ∧ 1 = 1 ∧ IntKind.i64 = .i64 ∧ d = d) ∧ 3 = 3 ∧ 1 = 1 ∧ IntKind.i64 = .i64 ∧ s = s) ∧ 3 = 3 ∧ 1 = 1 ∧ IntKind.i64 = .i64 ∧ q = q) ∧ LoopState.ready = LoopState.ready ∧ Non Code = Non Code) ∧ ∀ (z : Nat), let q6 := (List.getD l (Int.toNat (↑z : Int)) Enc.dflt); let q5 := (Row.w q6); let q4 := (leB q5 w); let q3 := (!bsel true q4 || bsel true q4); let q9 := (Row.d q6); let q8 := (bif leB q5 w then leB q9 d else false); let q7 := (!bsel true q8 || bsel
 true q8); let q12 := (Row.s q6); let q11 := (bif bif leB q5 w then leB q9 d else false then leB s q12 else false); let q10 := (!bsel true q11 || bsel true q11); let q15 := (Row.q q6); let q14 := (bif bif bif leB q5 w then leB q9 d else false then leB s q12 else false then leB q q15 else false); let q13 := (bsel true q14); let q16 := ((!bif bif bif leB q5 w then leB q9 d else false then leB s q12 else false then leB q q15 else false) || bsel true q14); let q17 := (if Row.n q6 > findZ l w d s q z then Row.n q6 else findZ l w d s q z); let q18 := (DB.db (inK .i64 ((↑z : Int) + (1 : Int)))); let
 q19 := (IntKind.i64 = .i64 ∧ findZ l w d s q z = findR l w d s q); z ≤ List.length l → bsplit (ltB (↑z : Int) (↑(List.length l) : Int)) (bsplit (DB.db ((0 : Int) ≤ (↑z : Int) ∧ (↑z : Int) < (↑(List.length l) : Int))) (bsplit q3 (bsplit q3 (bsplit q3 (bsplit (!leB q5 w || bsel true q4) (bsplit q7 (bsplit q7 (bsplit q7 (bsplit ((!bif leB q5 w then leB q9 d else false) || bsel true q8) (bsplit q10 (bsplit q10 (bsplit q10 (bsplit ((!bif bif leB q5 w then leB q9 d else false then leB s q12 else false) || bsel true q11) (bsplit q13 (bsplit q13 (bsplit q13 (bsplit (!bsel true q14 || true) (bsplit q16
 (bsplit (bif bif bif bif leB q5 w then leB q9 d else false then leB s q12 else false then leB q q15 else false then !Option.isNone (Non Code) else false) (IntKind.i64 = .i64 ∧ q17 = findR l w d s q) (bsplit q18 (∃ (z' : Nat), ((z' ≤ List.length l ∧ List.length l - z' < List.length l - z) ∧ nat_lit 6 = 6 ∧ (nat_lit 2 = 2 ∧ 0 = 0) ∧ (nat_lit 3 = 3 ∧ 0 = 0) ∧ (nat_lit 4 = 4 ∧ 0 = 0) ∧ (nat_lit 5 = 5 ∧ 0 = 0) ∧ avM q1 q1 ∧ q2 ∧ IntKind.i64 = .i64 ∧ (↑z : Int) + (1 : Int) = (↑z' : Int)) ∧ ((((((3 = 3 ∧ 1 = 1 ∧ IntKind.i64 = .i64 ∧ q17 = findZ l w d s q z') ∧ 22 = 22 ∧ 1 = 1 ∧ avM q1 q1) ∧ 3 = 3 ∧ 1
 = 1 ∧ IntKind.i64 = .i64 ∧ w = w) ∧ 3 = 3 ∧ 1 = 1 ∧ IntKind.i64 = .i64 ∧ d = d) ∧ 3 = 3 ∧ 1 = 1 ∧ IntKind.i64 = .i64 ∧ s = s) ∧ 3 = 3 ∧ 1 = 1 ∧ IntKind.i64 = .i64 ∧ q = q) ∧ LoopState.ready = LoopState.ready ∧ Non Code = Non Code) False)) False) False) False) False) (bsplit (!bsel true q14 || false) (bsplit q16 (bsplit (bif bif bif bif leB q5 w then leB q9 d else false then leB s q12 else false then leB q q15 else false then !false else false) q19 (bsplit q18 (∃ (z' : Nat), ((z' ≤ List.length l ∧ List.length l - z' < List.length l - z) ∧ nat_lit 6 = 6 ∧ (nat_lit 2 = 2 ∧ 0 = 0) ∧ (nat_lit 3 = 3
 ∧ 0 = 0) ∧ (nat_lit 4 = 4 ∧ 0 = 0) ∧ (nat_lit 5 = 5 ∧ 0 = 0) ∧ avM q1 q1 ∧ q2 ∧ IntKind.i64 = .i64 ∧ (↑z : Int) + (1 : Int) = (↑z' : Int)) ∧ ((((((3 = 3 ∧ 1 = 1 ∧ IntKind.i64 = .i64 ∧ findZ l w d s q z = findZ l w d s q z') ∧ 22 = 22 ∧ 1 = 1 ∧ avM q1 q1) ∧ 3 = 3 ∧ 1 = 1 ∧ IntKind.i64 = .i64 ∧ w = w) ∧ 3 = 3 ∧ 1 = 1 ∧ IntKind.i64 = .i64 ∧ d = d) ∧ 3 = 3 ∧ 1 = 1 ∧ IntKind.i64 = .i64 ∧ s = s) ∧ 3 = 3 ∧ 1 = 1 ∧ IntKind.i64 = .i64 ∧ q = q) ∧ LoopState.ready = LoopState.ready ∧ Non Code = Non Code) False)) False) False)) False) False) False) False) False) False) False) False) False) False) False)
 False) False) q19 := by
  dsimp only
  intro hb
  have e2 : (Enc.dflt : Row) = r0 := rfl
  simp only [avM_refl, true_and, and_true, bsel_true, bsel_false, vc_own, bif_or, bif_and, vc_gdb, vc_db, vc_lt, vc_le, vc_ne, vc_eq, vc_tt, Int.toNat_natCast, Nat.zero_add, Nat.zero_le, Nat.sub_zero, int_i, Bool.or_true, cond_true, cond_false, agD_row, agOk_row, agD_row', agOk_row', okIn, okIn', deI, deI', okR, okR', deR, deR', deRo, deRo', e2]
  have hb1 : l.length ≤ 9223372036854775807 := hb.1.1
  refine ⟨⟨0, ⟨by omega, rfl⟩, rfl⟩, fun z hz => ⟨fun hlt => ⟨⟨by omega, hlt⟩, ?_⟩, fun hge => ?_⟩⟩
  · have hs : findZ l w d s q (z + 1) = bif enoB (l.getD z r0) w d s q then (if (l.getD z r0).n > findZ l w d s q z then (l.getD z r0).n else findZ l w d s q z) else findZ l w d s q z := rfl
    have key : (leB (l.getD z r0).w w && leB (l.getD z r0).d d && leB s (l.getD z r0).s && leB q (l.getD z r0).q) = enoB (l.getD z r0) w d s q := rfl
    rw [key]
    cases he : enoB (l.getD z r0) w d s q with
    | true =>
      rw [he] at hs
      simp only [Bool.true_and, vc_tt]
      rw [show (!(Non Code).isNone) = false from rfl, vc_ff]
      exact ⟨⟨by omega, by omega⟩, z + 1, ⟨⟨by omega, by omega⟩, by omega⟩, hs.symm⟩
    | false =>
      rw [he] at hs
      simp only [Bool.false_and, vc_ff, Bool.not_false, Bool.true_or, vc_tt]
      exact ⟨⟨by omega, by omega⟩, z + 1, ⟨⟨by omega, by omega⟩, by omega⟩, hs.symm⟩
  · rw [show z = l.length by omega]; rfl
theorem allowed_C (l : List Row) (w : Int) (d : Int) (s : Int) (q : Int) : PureCall Tryz.prog [] 58 [slE l, .i w, .i d, .i s, .i q] (.i (findR l w d s q)) :=
  pure_of_vc mixed TB1_sound (Eq.mp (by kernel_rfl) (allowed_vc l w d s q) : vcFn Tryz.prog TB1 58 (allowed_an l w d s q) [slE l, .i w, .i d, .i s, .i q] (.i (findR l w d s q)))
theorem allowed_T : PureT Tryz.prog [] 58 allowed_t := by
  intro xs ps r h hp
  unfold allowed_t at h
  split at h
  · skip
    rename_i x_l w d s q
    cases h
    have q0 := hp _ List.mem_cons_self
    exact weaken (ys := [slE (rowsOf x_l), .i w, .i d, .i s, .i q]) ⟨slE_sound q0, avM_refl _, avM_refl _, avM_refl _, avM_refl _, trivial⟩ (allowed_C (rowsOf x_l) w d s q)
  · cases h
def ask_t : List AV → Option (List Cond × AV)
  | [x_l, .v (.int .i64 w), .v (.int .i64 d), .v (.int .i64 s), .v (.int .i64 q)] => some ([.b (slOk Row x_l)], .i (askE (rowsOf x_l) w d s q))
  | _ => none
theorem ask_vc (l : List Row) (w : Int) (d : Int) (s : Int) (q : Int) :
 bndL [AV.xl false 5 (List.length l) fun i j => Enc.enc (List.getD l i Enc.dflt) j, AV.v (Value.int .i64 w), AV.v (Value.int .i64 d), AV.v (Value.int .i64 s), AV.v (Value.int .i64 q)] → bsplit (slOk Row (AV.xl false 5 (List.length l) fun i j => Enc.enc (List.getD l i Enc.dflt) j)) (bsplit (tabE (rowsOf (AV.xl false 5 (List.length l) fun i j => Enc.enc (List.getD l i Enc.dflt) j)) != (0 : Int)) (IntKind.i64 = .i64 ∧ (1 : Int) = askE l w d s q) (bsplit (!rangB w d s q) (IntKind.i64 = .i64 ∧ (2 : Int) = askE l w d s q) (IntKind.i64 = .i64 ∧ (0 : Int) = askE l w d s q))) False := by
  intro hb
  have e2 : (Enc.dflt : Row) = r0 := rfl
  simp only [avM_refl, true_and, and_true, bsel_true, bsel_false, vc_own, bif_or, bif_and, vc_gdb, vc_db, vc_lt, vc_le, vc_ne, vc_eq, vc_tt, Int.toNat_natCast, Nat.zero_add, Nat.zero_le, Nat.sub_zero, int_i, Bool.or_true, cond_true, cond_false, agD_row, agOk_row, agD_row', agOk_row', okIn, okIn', deI, deI', okR, okR', deR, deR', deRo, deRo', e2]
  unfold askE
  refine ⟨fun h => by rw [bne_iff_ne.2 h]; rfl, fun h => ?_⟩
  rw [h]
  cases rangB w d s q <;> rfl
theorem ask_C (l : List Row) (w : Int) (d : Int) (s : Int) (q : Int) : PureCall Tryz.prog [] 55 [slE l, .i w, .i d, .i s, .i q] (.i (askE l w d s q)) :=
  pure_of_vc mixed (TbSound.plus (TbSound.plus tb0_sound check_T) ranged_T) (Eq.mp (by kernel_rfl) (ask_vc l w d s q) : vcFn Tryz.prog (((T0.plus 24 check_t).plus 74 ranged_t)) 55 .auto [slE l, .i w, .i d, .i s, .i q] (.i (askE l w d s q)))
theorem ask_T : PureT Tryz.prog [] 55 ask_t := by
  intro xs ps r h hp
  unfold ask_t at h
  split at h
  · skip
    rename_i x_l w d s q
    cases h
    have q0 := hp _ List.mem_cons_self
    exact weaken (ys := [slE (rowsOf x_l), .i w, .i d, .i s, .i q]) ⟨slE_sound q0, avM_refl _, avM_refl _, avM_refl _, avM_refl _, trivial⟩ (ask_C (rowsOf x_l) w d s q)
  · cases h
def find_t : List AV → Option (List Cond × AV)
  | [x_l, .v (.int .i64 w), .v (.int .i64 d), .v (.int .i64 s), .v (.int .i64 q)] => some ([.b (slOk Row x_l)], .tup 2 (listFn [.i (findV (rowsOf x_l) w d s q), .i (findE (rowsOf x_l) w d s q)]))
  | _ => none
theorem find_vc (l : List Row) (w : Int) (d : Int) (s : Int) (q : Int) :
 let q2 := (AV.xl false 5 (List.length l) fun i j => Enc.enc (List.getD l i Enc.dflt) j); let q1 := (slOk Row q2); let q3 := (rowsOf q2); let q4 := (True ∧ IntKind.i64 = .i64 ∧ (0 : Int) = findV l w d s q); bndL [AV.xl false 5 (List.length l) fun i j => Enc.enc (List.getD l i Enc.dflt) j, AV.v (Value.int .i64 w), AV.v (Value.int .i64 d), AV.v (Value.int .i64 s), AV.v (Value.int .i64 q)] → bsplit q1 (bsplit (askE q3 w d s q != (0 : Int)) (2 = List.length [AV.v (Value.int .i64 (0 : Int)), AV.v (Value.int .i64 (askE q3 w d s q))] ∧ q4 ∧ IntKind.i64 = .i64 ∧ askE q3 w d s q = findE l w d s q)
 (bsplit q1 (bsplit (findR q3 w d s q == (0 : Int)) (2 = List.length [AV.v (Value.int .i64 (0 : Int)), AV.v (Value.int .i64 (25 : Int))] ∧ q4 ∧ IntKind.i64 = .i64 ∧ (25 : Int) = findE l w d s q) (2 = List.length [AV.v (Value.int .i64 (findR q3 w d s q)), AV.v (Value.int .i64 (0 : Int))] ∧ (True ∧ IntKind.i64 = .i64 ∧ findR q3 w d s q = findV l w d s q) ∧ IntKind.i64 = .i64 ∧ (0 : Int) = findE l w d s q)) False)) False := by
  dsimp only
  intro hb
  have e2 : (Enc.dflt : Row) = r0 := rfl
  simp only [avM_refl, true_and, and_true, bsel_true, bsel_false, vc_own, bif_or, bif_and, vc_gdb, vc_db, vc_lt, vc_le, vc_ne, vc_eq, vc_tt, Int.toNat_natCast, Nat.zero_add, Nat.zero_le, Nat.sub_zero, int_i, Bool.or_true, cond_true, cond_false, agD_row, agOk_row, agD_row', agOk_row', okIn, okIn', deI, deI', okR, okR', deR, deR', deRo, deRo', e2]
  refine ⟨fun h => ?_, fun h => ⟨fun h2 => ?_, fun h2 => ?_⟩⟩
  · have e : findE l w d s q = askE l w d s q := by unfold findE; rw [bne_iff_ne.2 h]; rfl
    exact ⟨rfl, by unfold findV; rw [e, beq_false_of_ne h]; rfl, e.symm⟩
  · have e : findE l w d s q = 25 := by unfold findE; rw [h, h2]; rfl
    exact ⟨rfl, by unfold findV; rw [e]; rfl, e.symm⟩
  · have e : findE l w d s q = 0 := by unfold findE; rw [h, beq_false_of_ne h2]; rfl
    exact ⟨rfl, by unfold findV; rw [e]; rfl, e.symm⟩
theorem find_C (l : List Row) (w : Int) (d : Int) (s : Int) (q : Int) : PureCall Tryz.prog [] 16 [slE l, .i w, .i d, .i s, .i q] (.tup 2 (listFn [.i (findV l w d s q), .i (findE l w d s q)])) :=
  pure_of_vc mixed (TbSound.plus (TbSound.plus tb0_sound ask_T) allowed_T) (Eq.mp (by kernel_rfl) (find_vc l w d s q) : vcFn Tryz.prog (((T0.plus 55 ask_t).plus 58 allowed_t)) 16 .auto [slE l, .i w, .i d, .i s, .i q] (.tup 2 (listFn [.i (findV l w d s q), .i (findE l w d s q)])))
theorem find_T : PureT Tryz.prog [] 16 find_t := by
  intro xs ps r h hp
  unfold find_t at h
  split at h
  · skip
    rename_i x_l w d s q
    cases h
    have q0 := hp _ List.mem_cons_self
    exact weaken (ys := [slE (rowsOf x_l), .i w, .i d, .i s, .i q]) ⟨slE_sound q0, avM_refl _, avM_refl _, avM_refl _, avM_refl _, trivial⟩ (find_C (rowsOf x_l) w d s q)
  · cases h
def monK (l : List Row) (x : Row) : Bool := ltB x.n (findR l x.w x.d x.s x.q)
def monP_t : List AV → Option (List Cond × AV)
  | [x_x, .xq 1 c_l 0] => some ([.b (agOk Row x_x), .b (slOk Row (c_l 0))], .b (monK (rowsOf (c_l 0)) (agD (α := Row) x_x)))
  | _ => none
theorem monP_vc (x : Row) (l : List Row) :
 let q1 := (AV.xl false 5 (List.length l) fun i j => Enc.enc (List.getD l i Enc.dflt) j); bndL [AV.agg 5 (Enc.enc x), AV.xq 1 (fun (x : Nat) => AV.xl false 5 (List.length l) fun i j => Enc.enc (List.getD l i Enc.dflt) j) 0] → bsplit (slOk Row q1) (ltB (Row.n x) (findR (rowsOf q1) (Row.w x) (Row.d x) (Row.s x) (Row.q x)) = monK l x) False := by
  dsimp only
  intro hb
  have e2 : (Enc.dflt : Row) = r0 := rfl
  simp only [avM_refl, true_and, and_true, bsel_true, bsel_false, vc_own, bif_or, bif_and, vc_gdb, vc_db, vc_lt, vc_le, vc_ne, vc_eq, vc_tt, Int.toNat_natCast, Nat.zero_add, Nat.zero_le, Nat.sub_zero, int_i, Bool.or_true, cond_true, cond_false, agD_row, agOk_row, agD_row', agOk_row', okIn, okIn', deI, deI', okR, okR', deR, deR', deRo, deRo', e2]
  rfl
theorem monP_C (x : Row) (l : List Row) : PureCall Tryz.prog [] 65 [agE x, .xq 1 (fun _ => slE l) 0] (.b (monK l x)) :=
  pure_of_vc mixed (TbSound.plus tb0_sound allowed_T) (Eq.mp (by kernel_rfl) (monP_vc x l) : vcFn Tryz.prog (T0.plus 58 allowed_t) 65 .auto [agE x, .xq 1 (fun _ => slE l) 0] (.b (monK l x)))
theorem monP_T : PureT Tryz.prog [] 65 monP_t := by
  intro xs ps r h hp
  unfold monP_t at h
  split at h
  · skip
    rename_i x_x c_l
    cases h
    have q0 := hp _ List.mem_cons_self
    have q1 := hp _ (List.mem_cons_of_mem _ List.mem_cons_self)
    exact weaken (ys := [agE (agD (α := Row) x_x), .xq 1 (fun _ => slE (rowsOf (c_l 0))) 0]) ⟨agE_sound q0, ⟨rfl, rfl, slE_sound q1⟩, trivial⟩ (monP_C (agD (α := Row) x_x) (rowsOf (c_l 0)))
  · cases h
def fnM (l : List Row) : AV := .fn (.func 65) 0 (fun _ => .junk) 1 (fun _ => .xq 1 (fun _ => slE l) 0)
theorem idxM_vc (l m : List Row) :
 let q1 := (AV.xl false 5 (List.length l) fun i j => Enc.enc (List.getD l i Enc.dflt) j); let q2 := (AV.fn (Fn.func (65 : FuncId)) 0 (fun (x : Nat) => AV.junk) 1 fun (x : Nat) => AV.xq 1 (fun (x : Nat) => AV.xl false 5 (List.length m) fun i j => Enc.enc (List.getD m i Enc.dflt) j) 0); let q3 := (IntKind.i64 = .i64 ∧ (↑(List.length l) : Int) = (↑(List.length l) : Int)); let q4 := (AV.xl false 5 (List.length m) fun i j => Enc.enc (List.getD m i Enc.dflt) j); bndL [AV.xl false 5 (List.length l) fun i j => Enc.enc (List.getD l i Enc.dflt) j, AV.fn (Fn.func (65 : FuncId)) 0 (fun (x : Nat) => AV.junk)
 1 fun (x : Nat) => AV.xq 1 (fun (x : Nat) => AV.xl false 5 (List.length m) fun i j => Enc.enc (List.getD m i Enc.dflt) j) 0] → (∃ (z : Nat), ((z ≤ List.length l ∧ idxF (monK m) (List.drop z l) z = idxF (monK m) l 0) ∧ avM q1 q1 ∧ avM q2 q2 ∧ avM q1 q1 ∧ q3 ∧ IntKind.i64 = .i64 ∧ (0 : Int) = (↑z : Int)) ∧ True) ∧ ∀ (z : Nat), z ≤ List.length l ∧ idxF (monK m) (List.drop z l) z = idxF (monK m) l 0 → bsplit (ltB (↑z : Int) (↑(List.length l) : Int)) (bsplit (DB.db ((0 : Int) ≤ (↑z : Int) ∧ (↑z : Int) < (↑(List.length l) : Int))) (bsplit (slOk Row q4) (bsplit (monK (rowsOf q4) (agD (AV.agg 5 fun (i
 : Nat) => Enc.enc (List.getD l (Int.toNat (↑z : Int)) Enc.dflt) (0 + i)))) (IntKind.i64 = .i64 ∧ (↑z : Int) = idxF (monK m) l 0) (bsplit (DB.db (inK .i64 ((↑z : Int) + (1 : Int)))) (∃ (z' : Nat), (((z' ≤ List.length l ∧ idxF (monK m) (List.drop z' l) z' = idxF (monK m) l 0) ∧ List.length l - z' < List.length l - z) ∧ avM q1 q1 ∧ avM q2 q2 ∧ avM q1 q1 ∧ q3 ∧ IntKind.i64 = .i64 ∧ (↑z : Int) + (1 : Int) = (↑z' : Int)) ∧ True) False)) False) False) (IntKind.i64 = .i64 ∧ (-1 : Int) = idxF (monK m) l 0) := by
  dsimp only
  intro hb
  have hl : l.length ≤ 9223372036854775807 := hb.1.1
  have e2 : (Enc.dflt : Row) = r0 := rfl
  simp only [avM_refl, true_and, and_true, bsel_true, bsel_false, vc_own, bif_or, bif_and, vc_gdb, vc_db, vc_lt, vc_le, vc_ne, vc_eq, vc_tt, Int.toNat_natCast, Nat.zero_add, Nat.zero_le, Nat.sub_zero, int_i, Bool.or_true, cond_true, cond_false, agD_row, agOk_row, agD_row', agOk_row', okIn, okIn', deI, deI', okR, okR', deR, deR', deRo, deRo', e2]
  refine ⟨⟨0, ⟨by omega, rfl⟩, rfl⟩, fun z ⟨h1, h2⟩ => ⟨fun hz => ⟨by omega, (bsplit_iff (t := monK m (l.getD z r0))).2 ⟨fun hp => ?_, fun hp => ?_⟩⟩, fun hz => ?_⟩⟩
  · rw [getD_drop (d := r0) (by omega), idxF, hp] at h2; exact h2
  · rw [getD_drop (d := r0) (by omega), idxF, hp] at h2
    exact ⟨by simp only [inK]; omega, z + 1, ⟨⟨by omega, h2⟩, by omega⟩, by omega⟩
  · rw [show z = l.length by omega, List.drop_length] at h2; exact h2
theorem idxM_C (l m : List Row) : PureCall Tryz.prog [] 61 [slE l, fnM m] (.i (idxF (monK m) l 0)) :=
  pure_of_vc mixed (TbSound.plus tb0_sound monP_T) (Eq.mp (by kernel_rfl) (idxM_vc l m) : vcFn Tryz.prog (T0.plus 65 monP_t) 61 (idx_an l (monK m)) [slE l, fnM m] (.i (idxF (monK m) l 0)))
theorem conM_vc (l m : List Row) :
 bndL [AV.xl false 5 (List.length l) fun i j => Enc.enc (List.getD l i Enc.dflt) j, AV.fn (Fn.func (65 : FuncId)) 0 (fun (x : Nat) => AV.junk) 1 fun (x : Nat) => AV.xq 1 (fun (x : Nat) => AV.xl false 5 (List.length m) fun i j => Enc.enc (List.getD m i Enc.dflt) j) 0] → Wk [AV.xl false 5 (List.length l) fun i j => Enc.enc (List.getD l i Enc.dflt) j, AV.fn (Fn.func (65 : FuncId)) 0 (fun (x : Nat) => AV.junk) 1 fun (x : Nat) => AV.xq 1 (fun (x : Nat) => AV.xl false 5 (List.length m) fun i j => Enc.enc (List.getD m i Enc.dflt) j) 0] [AV.xl false 5 (List.length l) fun i j => Enc.enc (List.getD l i
 Enc.dflt) j, AV.fn (Fn.func (65 : FuncId)) 0 (fun (x : Nat) => AV.junk) 1 fun (x : Nat) => AV.xq 1 (fun (x : Nat) => AV.xl false 5 (List.length m) fun i j => Enc.enc (List.getD m i Enc.dflt) j) 0] ∧ leB (0 : Int) (idxF (monK m) l 0) = List.any l (monK m) := by
  intro hb
  exact ⟨Wk.refl _, idxF_any _ _ _⟩
theorem conM_C (l m : List Row) : PureCall Tryz.prog [] 18 [slE l, fnM m] (.b (l.any (monK m))) :=
  pure_of_vc mixed (TbSound.plus tb0_sound (inst_T (idxM_C l m))) (Eq.mp (by kernel_rfl) (conM_vc l m) : vcFn Tryz.prog (T0.plus 61 (inst [slE l, fnM m] (.i (idxF (monK m) l 0)))) 18 .auto [slE l, fnM m] (.b (l.any (monK m))))
def conM_t : List AV → Option (List Cond × AV)
  | [x, .fn (.func f) nf a nc c] =>
    match c 0 with
    | .xq 1 cells 0 => bif Nat.beq f 65 && Nat.beq nf 0 && Nat.beq nc 1 then some ([.b (slOk Row x), .b (slOk Row (cells 0))], .b ((rowsOf x).any (monK (rowsOf (cells 0))))) else none
    | _ => none
  | _ => none
theorem conM_T : PureT Tryz.prog [] 18 conM_t := by
  intro xs ps r h hp
  unfold conM_t at h
  split at h
  · rename_i x f nf a nc c
    split at h
    · rename_i cells hc0
      cases hc : Nat.beq f 65 && Nat.beq nf 0 && Nat.beq nc 1 with
      | false => rw [hc] at h; cases h
      | true =>
        rw [hc] at h
        cases h
        simp only [Bool.and_eq_true] at hc
        obtain rfl := Nat.eq_of_beq_eq_true hc.1.1
        obtain rfl := Nat.eq_of_beq_eq_true hc.1.2
        obtain rfl := Nat.eq_of_beq_eq_true hc.2
        have h1 : slOk Row x = true := hp _ List.mem_cons_self
        have h2 : slOk Row (cells 0) = true := hp _ (List.mem_cons_of_mem _ List.mem_cons_self)
        refine weaken (ys := [slE (rowsOf x), fnM (rowsOf (cells 0))]) ⟨slE_sound h1, ⟨rfl, rfl, rfl, trivial, ?_⟩, trivial⟩ (conM_C _ _)
        show avM (c 0) _
        rw [hc0]
        exact ⟨rfl, rfl, slE_sound h2⟩
    · cases h
  · cases h
def monE (l : List Row) : Int := bif tabE l != 0 then 1 else 0
def monV (l : List Row) : Bool := bif tabE l != 0 then false else monB l
def mono_t : List AV → Option (List Cond × AV)
  | [x_l] => some ([.b (slOk Row x_l)], .tup 2 (listFn [.b (monV (rowsOf x_l)), .i (monE (rowsOf x_l))]))
  | _ => none
theorem mono_vc (l : List Row) :
 let q2 := (AV.xl false 5 (List.length l) fun i j => Enc.enc (List.getD l i Enc.dflt) j); let q1 := (slOk Row q2); let q3 := (rowsOf q2); let q4 := (monK q3); bndL [AV.xl false 5 (List.length l) fun i j => Enc.enc (List.getD l i Enc.dflt) j] → bsplit q1 (bsplit (tabE q3 != (0 : Int)) (2 = List.length [AV.v (Value.bool false), AV.v (Value.int .i64 (1 : Int))] ∧ (True ∧ false = monV l) ∧ IntKind.i64 = .i64 ∧ (1 : Int) = monE l) (bsplit q1 (bsplit q1 (2 = List.length [AV.v (Value.bool !List.any q3 q4), AV.v (Value.int .i64 (0 : Int))] ∧ (True ∧ (!List.any q3 q4) = monV l) ∧ IntKind.i64 = .i64 ∧ (0
 : Int) = monE l) False) False)) False := by
  dsimp only
  intro hb
  have e2 : (Enc.dflt : Row) = r0 := rfl
  simp only [avM_refl, true_and, and_true, bsel_true, bsel_false, vc_own, bif_or, bif_and, vc_gdb, vc_db, vc_lt, vc_le, vc_ne, vc_eq, vc_tt, Int.toNat_natCast, Nat.zero_add, Nat.zero_le, Nat.sub_zero, int_i, Bool.or_true, cond_true, cond_false, agD_row, agOk_row, agD_row', agOk_row', okIn, okIn', deI, deI', okR, okR', deR, deR', deRo, deRo', e2]
  refine ⟨fun h => ?_, fun h => ?_⟩
  · unfold monV monE
    rw [bne_iff_ne.2 h]
    exact ⟨rfl, rfl, rfl⟩
  · unfold monV monE
    rw [h]
    exact ⟨rfl, rfl, rfl⟩
theorem mono_C (l : List Row) : PureCall Tryz.prog [] 21 [slE l] (.tup 2 (listFn [.b (monV l), .i (monE l)])) :=
  pure_of_vc mixed (TbSound.plus (TbSound.plus tb0_sound check_T) conM_T) (Eq.mp (by kernel_rfl) (mono_vc l) : vcFn Tryz.prog ((T0.plus 24 check_t).plus 18 conM_t) 21 .auto [slE l] (.tup 2 (listFn [.b (monV l), .i (monE l)])))
theorem mono_T : PureT Tryz.prog [] 21 mono_t := by
  intro xs ps r h hp
  unfold mono_t at h
  split at h
  · skip
    rename_i x_l
    cases h
    have q0 := hp _ List.mem_cons_self
    exact weaken (ys := [slE (rowsOf x_l)]) ⟨slE_sound q0, trivial⟩ (mono_C (rowsOf x_l))
  · cases h
def reno_t : List AV → Option (List Cond × AV)
  | [x_x, .v (.int .i64 w), .v (.int .i64 d), .v (.int .i64 s), .v (.int .i64 q)] => some ([.b (agOk Row x_x)], .b (enoB (agD (α := Row) x_x) w d s q))
  | _ => none
theorem reno_vc (x : Row) (w : Int) (d : Int) (s : Int) (q : Int) :
 let q1 := (!bsel true (leB (Row.w x) w) || bsel true (leB (Row.w x) w)); let q3 := (bif leB (Row.w x) w then leB (Row.d x) d else false); let q2 := (!bsel true q3 || bsel true q3); let q5 := (bif bif leB (Row.w x) w then leB (Row.d x) d else false then leB s (Row.s x) else false); let q4 := (!bsel true q5 || bsel true q5); bndL [AV.agg 5 (Enc.enc x), AV.v (Value.int .i64 w), AV.v (Value.int .i64 d), AV.v (Value.int .i64 s), AV.v (Value.int .i64 q)] → bsplit q1 (bsplit q1 (bsplit q1 (bsplit (!leB (Row.w x) w || bsel true (leB (Row.w x) w)) (bsplit q2 (bsplit q2 (bsplit q2 (bsplit ((!bif leB
 (Row.w x) w then leB (Row.d x) d else false) || bsel true q3) (bsplit q4 (bsplit q4 (bsplit q4 (bsplit ((!bif bif leB (Row.w x) w then leB (Row.d x) d else false then leB s (Row.s x) else false) || bsel true q5) ((bif bif bif leB (Row.w x) w then leB (Row.d x) d else false then leB s (Row.s x) else false then leB q (Row.q x) else false) = enoB x w d s q) False) False) False) False) False) False) False) False) False) False) False) False := by
  dsimp only
  intro hb
  unfold enoB
  simp only [avM_refl, true_and, and_true, bsel_true, bsel_false, vc_own, bif_or, bif_and, vc_gdb, vc_db, vc_lt, vc_le, vc_ne, vc_eq, vc_tt, Int.toNat_natCast, Nat.zero_add, Nat.zero_le, Nat.sub_zero, int_i, Bool.or_true, cond_true, cond_false, agD_row, agOk_row, agD_row', agOk_row', okIn, okIn', deI, deI', okR, okR', deR, deR', deRo, deRo']
theorem reno_C (x : Row) (w : Int) (d : Int) (s : Int) (q : Int) : PureCall Tryz.prog [] 124 [agE x, .i w, .i d, .i s, .i q] (.b (enoB x w d s q)) :=
  pure_of_vc mixed tb0_sound (Eq.mp (by kernel_rfl) (reno_vc x w d s q) : vcFn Tryz.prog T0 124 .auto [agE x, .i w, .i d, .i s, .i q] (.b (enoB x w d s q)))
theorem reno_T : PureT Tryz.prog [] 124 reno_t := by
  intro xs ps r h hp
  unfold reno_t at h
  split at h
  · skip
    rename_i x_x w d s q
    cases h
    have q0 := hp _ List.mem_cons_self
    exact weaken (ys := [agE (agD (α := Row) x_x), .i w, .i d, .i s, .i q]) ⟨agE_sound q0, avM_refl _, avM_refl _, avM_refl _, avM_refl _, trivial⟩ (reno_C (agD (α := Row) x_x) w d s q)
  · cases h
def rfind_an (l : List Row) (w d s q : Int) : Ann :=
  .two .auto (.two .auto (.two (.two .auto (.one (.loop Nat (fun σ z => [(0, σ.tm 0), (1, σ.tm 1), (2, σ.tm 2), (3, σ.tm 3), (4, σ.tm 4), (11, .i (findZ l w d s q z)), (12, .i z)]) (fun σ z => []) 0 (fun σ z => z ≤ l.length) (fun σ z => l.length - z) .auto))) .auto))
def rfnd_t : List AV → Option (List Cond × AV)
  | [x_l, .v (.int .i64 w), .v (.int .i64 d), .v (.int .i64 s), .v (.int .i64 q)] => some ([.b (slOk Row x_l)], .i (findR (rowsOf x_l) w d s q))
  | _ => none
theorem rfnd_vc (l : List Row) (w : Int) (d : Int) (s : Int) (q : Int) :
 let q1 := (AV.xl false 5 (List.length l) fun i j => Enc.enc (List.getD l i Enc.dflt) j); bndL [AV.xl false 5 (List.length l) fun i j => Enc.enc (List.getD l i Enc.dflt) j, AV.v (Value.int .i64 w), AV.v (Value.int .i64 d), AV.v (Value.int .i64 s), AV.v (Value.int .i64 q)] → (∃ (z : Nat), (z ≤ List.length l ∧ avM q1 q1 ∧ (IntKind.i64 = .i64 ∧ w = w) ∧ (IntKind.i64 = .i64 ∧ d = d) ∧ (IntKind.i64 = .i64 ∧ s = s) ∧ (IntKind.i64 = .i64 ∧ q = q) ∧ (IntKind.i64 = .i64 ∧ (0 : Int) = findZ l w d s q z) ∧ IntKind.i64 = .i64 ∧ (0 : Int) = (↑z : Int)) ∧ True) ∧ ∀ (z : Nat), let q2 := (DB.db ((0 : Int) ≤ (↑z
 : Int) ∧ (↑z : Int) < (↑(List.length l) : Int))); let q3 := (List.getD l (Int.toNat (↑z : Int)) Enc.dflt); let q4 := (DB.db (inK .i64 ((↑z : Int) + (1 : Int)))); z ≤ List.length l → bsplit (ltB (↑z : Int) (↑(List.length l) : Int)) (bsplit q2 (bsplit (enoB (agD (AV.agg 5 fun (i : Nat) => Enc.enc q3 (0 + i))) w d s q) (bsplit q2 (bsplit q4 (∃ (z' : Nat), ((z' ≤ List.length l ∧ List.length l - z' < List.length l - z) ∧ avM q1 q1 ∧ (IntKind.i64 = .i64 ∧ w = w) ∧ (IntKind.i64 = .i64 ∧ d = d) ∧ (IntKind.i64 = .i64 ∧ s = s) ∧ (IntKind.i64 = .i64 ∧ q = q) ∧ (IntKind.i64 = .i64 ∧ (if Row.n q3 > findZ l
 w d s q z then Row.n q3 else findZ l w d s q z) = findZ l w d s q z') ∧ IntKind.i64 = .i64 ∧ (↑z : Int) + (1 : Int) = (↑z' : Int)) ∧ True) False) False) (bsplit q4 (∃ (z' : Nat), ((z' ≤ List.length l ∧ List.length l - z' < List.length l - z) ∧ avM q1 q1 ∧ (IntKind.i64 = .i64 ∧ w = w) ∧ (IntKind.i64 = .i64 ∧ d = d) ∧ (IntKind.i64 = .i64 ∧ s = s) ∧ (IntKind.i64 = .i64 ∧ q = q) ∧ (IntKind.i64 = .i64 ∧ findZ l w d s q z = findZ l w d s q z') ∧ IntKind.i64 = .i64 ∧ (↑z : Int) + (1 : Int) = (↑z' : Int)) ∧ True) False)) False) (IntKind.i64 = .i64 ∧ findZ l w d s q z = findR l w d s q) := by
  dsimp only
  intro hb
  have e2 : (Enc.dflt : Row) = r0 := rfl
  simp only [avM_refl, true_and, and_true, bsel_true, bsel_false, vc_own, bif_or, bif_and, vc_gdb, vc_db, vc_lt, vc_le, vc_ne, vc_eq, vc_tt, Int.toNat_natCast, Nat.zero_add, Nat.zero_le, Nat.sub_zero, int_i, Bool.or_true, cond_true, cond_false, agD_row, agOk_row, agD_row', agOk_row', okIn, okIn', deI, deI', okR, okR', deR, deR', deRo, deRo', e2]
  have hb1 : l.length ≤ 9223372036854775807 := hb.1.1
  refine ⟨⟨0, by omega, rfl, rfl⟩, fun z hz => ⟨fun hlt => ⟨⟨by omega, hlt⟩, ?_⟩, fun hge => ?_⟩⟩
  · have hs : findZ l w d s q (z + 1) = bif enoB (l.getD z r0) w d s q then (if (l.getD z r0).n > findZ l w d s q z then (l.getD z r0).n else findZ l w d s q z) else findZ l w d s q z := rfl
    cases he : enoB (l.getD z r0) w d s q with
    | true =>
      rw [he] at hs
      simp only [vc_tt]
      exact ⟨⟨by omega, hlt⟩, ⟨by omega, by omega⟩, z + 1, ⟨by omega, by omega⟩, hs.symm, by omega⟩
    | false =>
      rw [he] at hs
      simp only [vc_ff]
      exact ⟨⟨by omega, by omega⟩, z + 1, ⟨by omega, by omega⟩, hs.symm, by omega⟩
  · rw [show z = l.length by omega]; rfl
theorem rfnd_C (l : List Row) (w : Int) (d : Int) (s : Int) (q : Int) : PureCall Tryz.prog [] 80 [slE l, .i w, .i d, .i s, .i q] (.i (findR l w d s q)) :=
  pure_of_vc mixed (TbSound.plus tb0_sound reno_T) (Eq.mp (by kernel_rfl) (rfnd_vc l w d s q) : vcFn Tryz.prog (T0.plus 124 reno_t) 80 (rfind_an l w d s q) [slE l, .i w, .i d, .i s, .i q] (.i (findR l w d s q)))
theorem rfnd_T : PureT Tryz.prog [] 80 rfnd_t := by
  intro xs ps r h hp
  unfold rfnd_t at h
  split at h
  · skip
    rename_i x_l w d s q
    cases h
    have q0 := hp _ List.mem_cons_self
    exact weaken (ys := [slE (rowsOf x_l), .i w, .i d, .i s, .i q]) ⟨slE_sound q0, avM_refl _, avM_refl _, avM_refl _, avM_refl _, trivial⟩ (rfnd_C (rowsOf x_l) w d s q)
  · cases h
end Go.Te

set_option linter.unusedSimpArgs false
namespace Go.Proofs
open Go.Shelf
def Tryz.lays219_ren : Go.Shelf.Ren := ⟨fun | 219 => 123 | 217 => 174 | 225 => 181 | 224 => 182 | 267 => 183 | 266 => 218 | 314 => 229 | n => n, fun | 9 => 9 | 3 => 3 | 4 => 4 | 5 => 5 | 46 => 155 | 146 => 243 | 51 => 201 | n => n, fun | 1 => 0 | n => n⟩
theorem Tryz.lays219 : Go.Proofs.Lays.n219 Tryz.prog Tryz.lays219_ren := {
  mixed := by kernel_rfl
  f217 := Tryz.func174.trans (congrArg some (by kernel_rfl))
  f219 := Tryz.func123.trans (congrArg some (by kernel_rfl))
  f224 := Tryz.func182.trans (congrArg some (by kernel_rfl))
  f225 := Tryz.func181.trans (congrArg some (by kernel_rfl))
  f266 := Tryz.func218.trans (congrArg some (by kernel_rfl))
  f267 := Tryz.func183.trans (congrArg some (by kernel_rfl))
  f314 := Tryz.func229.trans (congrArg some (by kernel_rfl))
  t3 := Tryz.underlying3
  a3 := Tryz.isAgg3
  z3 := Tryz.sizeOf3
  v3 := Tryz.zeroValue3
  t4 := Tryz.underlying4
  a4 := Tryz.isAgg4
  z4 := Tryz.sizeOf4
  v4 := Tryz.zeroValue4
  t5 := Tryz.underlying5
  a5 := Tryz.isAgg5
  z5 := Tryz.sizeOf5
  v5 := Tryz.zeroValue5
  t9 := Tryz.underlying9
  a9 := Tryz.isAgg9
  z9 := Tryz.sizeOf9
  v9 := Tryz.zeroValue9
  t46 := Tryz.underlying155
  a46 := Tryz.isAgg155
  z46 := Tryz.sizeOf155
  v46 := Tryz.zeroValue155
  t51 := Tryz.underlying201
  a51 := Tryz.isAgg201
  z51 := Tryz.sizeOf201
  v51 := Tryz.zeroValue201
  t146 := Tryz.underlying243
  a146 := Tryz.isAgg243
  z146 := Tryz.sizeOf243
  v146 := Tryz.zeroValue243
  g1 := by kernel_rfl }
open Go.RowKit Go.Lib in
theorem Tryz.stringslite_Index_one (s : ByteArray) (c : UInt8) (w : World) :
    Calls Tryz.prog 123 #[.string s, .string ⟨#[c]⟩] w fun e w' => e = .returned (.int .i64 (Lib.indexByte s.data.toList c)) ∧ w' = w := Any.stringslite_Index_one Tryz.lays219 s c w
def Tryz.laysM171_ren : Go.Shelf.Ren := ⟨fun | 171 => 71 | 243 => 121 | 246 => 180 | 283 => 225 | 284 => 226 | 285 => 227 | 286 => 228 | 129 => 173 | 317 => 248 | 318 => 249 | 319 => 250 | 320 => 251 | 337 => 270 | 338 => 271 | n => n, fun | 3 => 3 | 9 => 9 | 2 => 2 | 4 => 4 | 171 => 239 | 0 => 0 | 53 => 203 | 37 => 106 | 5 => 5 | 173 => 241 | 212 => 260 | 51 => 201 | 20 => 20 | 213 => 261 | 46 => 155 | 232 => 288 | 233 => 289 | n => n, fun | 17 => 3 | 18 => 6 | 19 => 7 | n => n⟩
theorem Tryz.laysM171 : Go.Proofs.LaysM.n171 Tryz.prog Tryz.laysM171_ren := {
  mixed := by kernel_rfl
  f129 := Tryz.func173.trans (congrArg some (by kernel_rfl))
  f171 := Tryz.func71.trans (congrArg some (by kernel_rfl))
  f243 := Tryz.func121.trans (congrArg some (by kernel_rfl))
  f246 := Tryz.func180.trans (congrArg some (by kernel_rfl))
  f283 := Tryz.func225.trans (congrArg some (by kernel_rfl))
  f284 := Tryz.func226.trans (congrArg some (by kernel_rfl))
  f285 := Tryz.func227.trans (congrArg some (by kernel_rfl))
  f286 := Tryz.func228.trans (congrArg some (by kernel_rfl))
  f317 := Tryz.func248.trans (congrArg some (by kernel_rfl))
  f318 := Tryz.func249.trans (congrArg some (by kernel_rfl))
  f319 := Tryz.func250.trans (congrArg some (by kernel_rfl))
  f320 := Tryz.func251.trans (congrArg some (by kernel_rfl))
  f337 := Tryz.func270.trans (congrArg some (by kernel_rfl))
  f338 := Tryz.func271.trans (congrArg some (by kernel_rfl))
  t0 := Tryz.underlying0
  a0 := Tryz.isAgg0
  z0 := Tryz.sizeOf0
  v0 := Tryz.zeroValue0
  t2 := Tryz.underlying2
  a2 := Tryz.isAgg2
  z2 := Tryz.sizeOf2
  v2 := Tryz.zeroValue2
  t3 := Tryz.underlying3
  a3 := Tryz.isAgg3
  z3 := Tryz.sizeOf3
  v3 := Tryz.zeroValue3
  t4 := Tryz.underlying4
  a4 := Tryz.isAgg4
  z4 := Tryz.sizeOf4
  v4 := Tryz.zeroValue4
  t5 := Tryz.underlying5
  a5 := Tryz.isAgg5
  z5 := Tryz.sizeOf5
  v5 := Tryz.zeroValue5
  t9 := Tryz.underlying9
  a9 := Tryz.isAgg9
  z9 := Tryz.sizeOf9
  v9 := Tryz.zeroValue9
  t20 := Tryz.underlying20
  a20 := Tryz.isAgg20
  z20 := Tryz.sizeOf20
  v20 := Tryz.zeroValue20
  t37 := Tryz.underlying106
  a37 := Tryz.isAgg106
  z37 := Tryz.sizeOf106
  v37 := Tryz.zeroValue106
  t46 := Tryz.underlying155
  a46 := Tryz.isAgg155
  z46 := Tryz.sizeOf155
  v46 := Tryz.zeroValue155
  t51 := Tryz.underlying201
  a51 := Tryz.isAgg201
  z51 := Tryz.sizeOf201
  v51 := Tryz.zeroValue201
  t53 := Tryz.underlying203
  a53 := Tryz.isAgg203
  z53 := Tryz.sizeOf203
  v53 := Tryz.zeroValue203
  t171 := Tryz.underlying239
  a171 := Tryz.isAgg239
  z171 := Tryz.sizeOf239
  v171 := Tryz.zeroValue239
  t173 := Tryz.underlying241
  a173 := Tryz.isAgg241
  z173 := Tryz.sizeOf241
  v173 := Tryz.zeroValue241
  t212 := Tryz.underlying260
  a212 := Tryz.isAgg260
  z212 := Tryz.sizeOf260
  v212 := Tryz.zeroValue260
  t213 := Tryz.underlying261
  a213 := Tryz.isAgg261
  z213 := Tryz.sizeOf261
  t232 := Tryz.underlying288
  a232 := Tryz.isAgg288
  z232 := Tryz.sizeOf288
  v232 := Tryz.zeroValue288
  t233 := Tryz.underlying289
  a233 := Tryz.isAgg289
  z233 := Tryz.sizeOf289
  v233 := Tryz.zeroValue289
  g17 := by kernel_rfl
  g18 := by kernel_rfl
  g19 := by kernel_rfl
  i0 := by kernel_rfl
  i2 := by kernel_rfl
  i3 := by kernel_rfl
  i4 := by kernel_rfl
  i5 := by kernel_rfl
  i9 := by kernel_rfl
  i20 := by kernel_rfl
  i37 := by kernel_rfl
  i46 := by kernel_rfl
  i51 := by kernel_rfl
  i53 := by kernel_rfl
  i171 := by kernel_rfl
  i173 := by kernel_rfl
  i212 := by kernel_rfl
  i232 := by kernel_rfl
  i233 := by kernel_rfl
  m17 := by kernel_rfl
  m18 := by kernel_rfl
  m19 := by kernel_rfl }
open Go.RowKit Go.Sort Go.Lib in
theorem Tryz.strconv_Itoa (n : Int) (h0 : -9223372036854775808 ≤ n) (h1 : n ≤ 9223372036854775807) (w : World) (htab : Lib.TabIs Tryz.prog w "internal/strconv.uint64pow10" .u64 Lib.pow10Tab) :
    Calls Tryz.prog 71 #[.int .i64 n] w fun e w' => e = .returned (.string ⟨(Lib.itoa n).toArray⟩) ∧ ∃ k os, w' = grow (w.drewN k) os := Any.strconv_Itoa Tryz.laysM171 n h0 h1 w htab
end Go.Proofs

set_option linter.unusedSimpArgs false
namespace Go.Te
open Go Go.Sx Go.Proofs Go.Ar Go.RowKit
set_option maxRecDepth 100000
set_option maxHeartbeats 4000000
def isT : AV → Bool
  | .v (.bool true) => true
  | _ => false
theorem isT_avM (x : AV) (h : isT x = true) : avM x (.b true) := by
  unfold isT at h
  split at h
  · exact avM_refl _
  · cases h
def idx1_t : List AV → Option (List Cond × AV)
  | [.str s, .str [c]] => some ([], .i (Lib.indexByte s c))
  | _ => none
theorem idx1_T : PureT Tryz.prog [] 123 idx1_t := by
  intro xs ps r h hp
  unfold idx1_t at h
  split at h
  · rename_i s c
    cases h
    refine ⟨enters_of Tryz.func123 (by kernel_rfl) rfl, fun w S vals hS hg hr => ?_⟩
    match vals, hr with
    | [v, v2], ⟨hv, hv2, _⟩ =>
    obtain rfl := rel_str hv
    obtain rfl := rel_str hv2
    refine (Tryz.stringslite_Index_one ⟨s.toArray⟩ c w).mono ?_
    rintro e w' ⟨rfl, rfl⟩
    exact ⟨⟨Below.refl _ _, Nat.le_refl _⟩, _, rfl, .v _⟩
  · cases h
noncomputable def TC1 : Tb := T0.plus 123 idx1_t
theorem TC1_sound : TbSound Tryz.prog TC1 := TbSound.plus tb0_sound idx1_T
noncomputable def DC1 : Tb := Tb.deepX Tryz.prog TC1 [] 12
theorem DC1_sound : TbSound Tryz.prog DC1 := TbSound.deepX mixed TC1_sound [] 12
def isI0 : AV → Bool
  | .v (.int .i64 0) => true
  | _ => false
theorem check1_vc  :
 True := by
  trivial
theorem check2_vc  :
 True := by
  trivial
theorem PureCall.mono {P : Program} {G : List (Nat × Obj)} {f : FuncId} {xs : List AV} {r : AV} (h : PureCall P [] f xs r) : PureCall P G f xs r :=
  ⟨h.1, fun w S vals hS _ hr => h.2 w S vals hS (fun b o hbo => by cases hbo) hr⟩
theorem FreshCall.mono {P : Program} {G : List (Nat × Obj)} {f : FuncId} {xs : List AV} {t : TypeId} {sz len : Nat} {els : Nat → Nat → AV} (h : FreshCall P [] f xs t sz len els) : FreshCall P G f xs t sz len els :=
  ⟨h.1, fun w S vals hS _ hr => h.2 w S vals hS (fun b o hbo => by cases hbo) hr⟩
theorem PureT.mono {P : Program} {G : List (Nat × Obj)} {f : FuncId} {t : List AV → Option (List Cond × AV)} (h : PureT P [] f t) : PureT P G f t := fun xs ps r e hp => PureCall.mono (h xs ps r e hp)
theorem FreshT.mono {P : Program} {G : List (Nat × Obj)} {f : FuncId} {t : List AV → Option (List Cond × TypeId × Nat × Nat × (Nat → Nat → AV))} (h : FreshT P [] f t) : FreshT P G f t := fun xs ps ty sz len els e hp => FreshCall.mono (h xs ps ty sz len els e hp)
def TabIn (G : List (Nat × Obj)) : Prop := ∃ g t fr, Tryz.prog.globalNamed "internal/strconv.uint64pow10" = some g ∧ (g, Obj.cells (Lib.pow10Tab.map fun z => Value.int .u64 z).toArray t fr) ∈ G
def itoa_t : List AV → Option (List Cond × AV)
  | [.v (.int .i64 n)] => some ([.p (inK .i64 n)], .str (Lib.itoa n))
  | _ => none
theorem itoa_T {G : List (Nat × Obj)} (hG : TabIn G) : PureT Tryz.prog G 71 itoa_t := by
  intro xs ps r h hp
  unfold itoa_t at h
  split at h
  · rename_i n
    cases h
    have hn : inK .i64 n := hp _ List.mem_cons_self
    simp only [inK] at hn
    refine ⟨enters_of Tryz.func71 (by kernel_rfl) rfl, fun w S vals hS hg hr => ?_⟩
    match vals, hr with
    | [v], ⟨hv, _⟩ =>
    obtain rfl := rel_v hv
    obtain ⟨g, t, fr, hname, hmem⟩ := hG
    have htab : Lib.TabIs Tryz.prog w "internal/strconv.uint64pow10" .u64 Lib.pow10Tab := by
      unfold Lib.TabIs World.var?
      rw [hname]
      simp only [Option.bind_some, (hg _ _ hmem).2]
    refine (Tryz.strconv_Itoa n hn.1 hn.2 w htab).mono ?_
    rintro e w' ⟨rfl, k, os, rfl⟩
    exact ⟨⟨⟨rfl, rfl, rfl, by simp [Go.Sort.grow, World.drewN], fun b hb => by simp [Go.Sort.grow, World.drewN, Array.getElem?_append, hb]⟩, by simp [Go.Sort.grow, World.drewN]⟩, _, rfl, .str _⟩
  · cases h
noncomputable def TIt (G : List (Nat × Obj)) : Tb := (tb0 G).plus 71 itoa_t
theorem TIt_sound {G : List (Nat × Obj)} (hG : TabIn G) : TbSound Tryz.prog (TIt G) := TbSound.plus tb0_sound (itoa_T hG)
theorem of1_vc (G : List (Nat × Obj)) (n : Int) (hn : inK .i64 n) :
 bndL [AV.v (Value.int .i64 n), AV.v (Value.int .i64 (1 : Int))] → ((-9223372036854775808 : Int) ≤ n ∧ n ≤ (9223372036854775807 : Int)) ∧ 2 = List.length [AV.str (Lib.itoa n), AV.v (Value.int .i64 (0 : Int))] ∧ (True ∧ Lib.itoa n = Lib.itoa n) ∧ IntKind.i64 = .i64 ∧ (0 : Int) = (0 : Int) := by
  intro _
  exact ⟨hn, rfl, ⟨trivial, rfl⟩, rfl, rfl⟩
theorem of1_C {G : List (Nat × Obj)} (hG : TabIn G) (n : Int) (hn : inK .i64 n) : PureCall Tryz.prog G 89 [.i n, .i 1] (.tup 2 (listFn [.str (Lib.itoa n), .i 0])) :=
  pure_of_vc mixed (TIt_sound hG) (Eq.mp (by kernel_rfl) (of1_vc G n hn) : vcFn Tryz.prog (TIt G) 89 .auto [.i n, .i 1] (.tup 2 (listFn [.str (Lib.itoa n), .i 0])))
def isBI (t : Bool) : AV → Bool
  | .tup 2 vs => (match vs 0 with | .v (.bool a) => a == t | _ => false) && (match vs 1 with | .v (.int .i64 0) => true | _ => false)
  | _ => false
theorem isBI_avM {t : Bool} (x : AV) (h : isBI t x = true) : avM x (.tup 2 (listFn [.b t, .i 0])) := by
  unfold isBI at h
  split at h
  · rename_i vs
    simp only [Bool.and_eq_true] at h
    refine ⟨rfl, allB_of fun i hi => ?_⟩
    match i, hi with
    | 0, _ =>
      show avM (vs 0) (.b t)
      have h1 := h.1
      split at h1
      · rename_i a ha; rw [ha, eq_of_beq h1]; exact avM_refl _
      · cases h1
    | 1, _ =>
      show avM (vs 1) (.i 0)
      have h1 := h.2
      split at h1
      · rename_i ha; rw [ha]; exact avM_refl _
      · cases h1
  · cases h
noncomputable def TF (G : List (Nat × Obj)) (n : Int) (nl : List UInt8) : Tb := ((tb0 G).plus 123 idx1_t).plus 89 (inst [.i n, .i 1] (.tup 2 (listFn [.str nl, .i 0])))
noncomputable def DF (G : List (Nat × Obj)) (n : Int) (nl : List UInt8) : Tb := Tb.deepX Tryz.prog (TF G n nl) [] 12
theorem DF_sound {G : List (Nat × Obj)} (hG : TabIn G) {n : Int} {nl : List UInt8} (hn : inK .i64 n) (h : Lib.itoa n = nl) : TbSound Tryz.prog (DF G n nl) :=
  TbSound.deepX mixed (TbSound.plus (TbSound.plus tb0_sound (PureT.mono idx1_T)) (inst_T (h ▸ of1_C hG n hn))) [] 12
theorem fits1_vc (G : List (Nat × Obj)) :
 Wk [AV.v (Value.int .i64 (3600 : Int)), AV.v (Value.int .i64 (1 : Int))] [AV.v (Value.int .i64 (3600 : Int)), AV.v (Value.int .i64 (1 : Int))] ∧ True := by
  exact ⟨Wk.refl _, trivial⟩
theorem fits2_vc (G : List (Nat × Obj)) :
 Wk [AV.v (Value.int .i64 (3600 : Int)), AV.v (Value.int .i64 (1 : Int))] [AV.v (Value.int .i64 (3600 : Int)), AV.v (Value.int .i64 (1 : Int))] ∧ True := by
  exact ⟨Wk.refl _, trivial⟩
theorem fits3_vc (G : List (Nat × Obj)) :
 Wk [AV.v (Value.int .i64 (2500 : Int)), AV.v (Value.int .i64 (1 : Int))] [AV.v (Value.int .i64 (2500 : Int)), AV.v (Value.int .i64 (1 : Int))] ∧ True := by
  exact ⟨Wk.refl _, trivial⟩
theorem fits4_vc (G : List (Nat × Obj)) :
 Wk [AV.v (Value.int .i64 (2800 : Int)), AV.v (Value.int .i64 (1 : Int))] [AV.v (Value.int .i64 (2800 : Int)), AV.v (Value.int .i64 (1 : Int))] ∧ True := by
  exact ⟨Wk.refl _, trivial⟩
theorem it_ (l : List UInt8) (h : digS l = true) : Lib.itoa (decV l : Int) = l := by rw [itoa_nat, decDigits_decV h]
abbrev sA : List UInt8 := [50, 54, 48, 48]
abbrev sB : List UInt8 := [55, 50, 48, 49, 47, 50]
def fitEx_t : List AV → Option (List Cond × AV)
  | [.v (.int .i64 n), .str s] =>
    bif n == 2500 then some ([.b (s == sA)], .tup 2 (listFn [.b false, .i 0]))
    else bif n == 2800 then some ([.b (s == sA)], .tup 2 (listFn [.b true, .i 0]))
    else bif n == 3600 then some ([.b (s == sA || s == sB)], .tup 2 (listFn [.b (s == sA), .i 0])) else none
  | _ => none
theorem fitEx_T {G : List (Nat × Obj)} (hG : TabIn G) : PureT Tryz.prog G 57 fitEx_t := by
  intro xs ps r h hp
  unfold fitEx_t at h
  split at h
  · rename_i n s
    cases h1 : n == 2500 with
    | true =>
      rw [h1] at h
      cases h
      obtain rfl := eq_of_beq h1
      have q : (s == sA) = true := hp _ List.mem_cons_self
      obtain rfl := eq_of_beq q
      exact pure_of_vcC mixed (DF_sound hG (by simp only [inK]; decide) (it_ [50, 53, 48, 48] (by decide))) isBI_avM (Eq.mp (by kernel_rfl) (fits3_vc G) : vcFnC Tryz.prog (DF G 2500 [50, 53, 48, 48]) 57 .auto [.i 2500, .str [50, 54, 48, 48]] (isBI false))
    | false =>
    rw [h1] at h
    cases h2 : n == 2800 with
    | true =>
      rw [h2] at h
      cases h
      obtain rfl := eq_of_beq h2
      have q : (s == sA) = true := hp _ List.mem_cons_self
      obtain rfl := eq_of_beq q
      exact pure_of_vcC mixed (DF_sound hG (by simp only [inK]; decide) (it_ [50, 56, 48, 48] (by decide))) isBI_avM (Eq.mp (by kernel_rfl) (fits4_vc G) : vcFnC Tryz.prog (DF G 2800 [50, 56, 48, 48]) 57 .auto [.i 2800, .str [50, 54, 48, 48]] (isBI true))
    | false =>
    rw [h2] at h
    cases h3 : n == 3600 with
    | true =>
      rw [h3] at h
      cases h
      obtain rfl := eq_of_beq h3
      have q : (s == sA || s == sB) = true := hp _ List.mem_cons_self
      rw [Bool.or_eq_true] at q
      rcases q with q | q
      · obtain rfl := eq_of_beq q
        exact pure_of_vcC mixed (DF_sound hG (by simp only [inK]; decide) (it_ [51, 54, 48, 48] (by decide))) isBI_avM (Eq.mp (by kernel_rfl) (fits2_vc G) : vcFnC Tryz.prog (DF G 3600 [51, 54, 48, 48]) 57 .auto [.i 3600, .str [50, 54, 48, 48]] (isBI true))
      · obtain rfl := eq_of_beq q
        exact pure_of_vcC mixed (DF_sound hG (by simp only [inK]; decide) (it_ [51, 54, 48, 48] (by decide))) isBI_avM (Eq.mp (by kernel_rfl) (fits1_vc G) : vcFnC Tryz.prog (DF G 3600 [51, 54, 48, 48]) 57 .auto [.i 3600, .str [55, 50, 48, 49, 47, 50]] (isBI false))
    | false => rw [h3] at h; cases h
  · cases h
theorem cs1_vc  :
 True := by
  trivial
theorem cs2_vc  :
 True := by
  trivial
theorem isI0_avM (x : AV) (h : isI0 x = true) : avM x (.i 0) := by
  unfold isI0 at h
  split at h
  · exact avM_refl _
  · cases h
def csEx_t : List AV → Option (List Cond × AV)
  | [.str s] => some ([.b (s == sA || s == sB)], .i 0)
  | _ => none
theorem csEx_T : PureT Tryz.prog [] 56 csEx_t := by
  intro xs ps r h hp
  unfold csEx_t at h
  split at h
  · rename_i s
    cases h
    have q : (s == sA || s == sB) = true := hp _ List.mem_cons_self
    rw [Bool.or_eq_true] at q
    rcases q with q | q
    · obtain rfl := eq_of_beq q
      exact pure_of_vcC mixed DC1_sound isI0_avM (Eq.mp (by kernel_rfl) cs1_vc : vcFnC Tryz.prog DC1 56 .auto [.str [50, 54, 48, 48]] isI0)
    · obtain rfl := eq_of_beq q
      exact pure_of_vcC mixed DC1_sound isI0_avM (Eq.mp (by kernel_rfl) cs2_vc : vcFnC Tryz.prog DC1 56 .auto [.str [55, 50, 48, 49, 47, 50]] isI0)
  · cases h
theorem ag_sz (b : Sz) : agD (.agg 3 fun i => Enc.enc b i) = b := agD_agE b
def bySize_t : List AV → Option (List Cond × AV)
  | [x_a, x_b] => some ([.b (agOk Sz x_a), .b (agOk Sz x_b), .p (okS (agD (α := Sz) x_a) = true), .p (okS (agD (α := Sz) x_b) = true)], .i (ordS (agD (α := Sz) x_a) (agD (α := Sz) x_b)))
  | _ => none
theorem bySize_vc (a : Sz) (b : Sz) (h1 : okS a = true) (h2 : okS b = true) :
 bndL [AV.agg 3 (Enc.enc a), AV.agg 3 (Enc.enc b)] → bsplit (DB.db (inK .i64 (Sz.w a * Sz.d a))) (bsplit (DB.db (inK .i64 (Sz.w b * Sz.d b))) (bsplit (DB.db (inK .i64 (Sz.w a * Sz.d a - Sz.w b * Sz.d b))) (bsplit (DB.db (inK .i64 (Sz.w a - Sz.w b))) (IntKind.i64 = .i64 ∧ orF (fun (i : Nat) => AV.int (Sx.rowAt [fun (x : Nat) => AV.v (Value.int .i64 (Sz.w a * Sz.d a - Sz.w b * Sz.d b)), fun (x : Nat) => AV.v (Value.int .i64 (Sz.w a - Sz.w b))] i 0)) 2 0 = ordS a b) False) False) False) False := by
  intro _
  have g1 := okS_iff h1
  have g2 := okS_iff h2
  simp only [avM_refl, true_and, and_true, bsel_true, bsel_false, vc_own, bif_or, bif_and, vc_gdb, vc_db, vc_lt, vc_le, vc_ne, vc_eq, vc_tt, Int.toNat_natCast, Nat.zero_add, Nat.zero_le, Nat.sub_zero, int_i, Bool.or_true, cond_true, cond_false, true_and]
  refine ⟨⟨by omega, by omega⟩, ⟨by omega, by omega⟩, ⟨by omega, by omega⟩, ⟨by omega, by omega⟩, ?_⟩
  show (bif a.w * a.d - b.w * b.d == 0 then (bif a.w - b.w == 0 then (0 : Int) else a.w - b.w) else a.w * a.d - b.w * b.d) = ordS a b
  unfold ordS
  generalize a.w * a.d - b.w * b.d = x1
  generalize a.w - b.w = x2
  have e : ∀ (x A B : Int), (bif x == 0 then A else B) = bif x != 0 then B else A := fun x A B => by
    show _ = bif !(x == 0) then B else A
    cases x == 0 <;> rfl
  have e4 : (bif x2 == 0 then (0 : Int) else x2) = x2 := by
    cases h : x2 == 0 with
    | true => exact (eq_of_beq h).symm
    | false => rfl
  rw [e4, e]
theorem bySize_C (a : Sz) (b : Sz) (h1 : okS a = true) (h2 : okS b = true) : PureCall Tryz.prog [] 60 [agE a, agE b] (.i (ordS a b)) :=
  pure_of_vc mixed TA4_sound (Eq.mp (by kernel_rfl) (bySize_vc a b h1 h2) : vcFn Tryz.prog TA4 60 .auto [agE a, agE b] (.i (ordS a b)))
theorem bySize_T : PureT Tryz.prog [] 60 bySize_t := by
  intro xs ps r h hp
  unfold bySize_t at h
  split at h
  · skip
    rename_i x_a x_b
    cases h
    have q0 := hp _ List.mem_cons_self
    have q1 := hp _ (List.mem_cons_of_mem _ List.mem_cons_self)
    have q2 := hp _ (List.mem_cons_of_mem _ (List.mem_cons_of_mem _ List.mem_cons_self))
    have q3 := hp _ (List.mem_cons_of_mem _ (List.mem_cons_of_mem _ (List.mem_cons_of_mem _ List.mem_cons_self)))
    exact weaken (ys := [agE (agD (α := Sz) x_a), agE (agD (α := Sz) x_b)]) ⟨agE_sound q0, agE_sound q1, trivial⟩ (bySize_C (agD (α := Sz) x_a) (agD (α := Sz) x_b) q2 q3)
  · cases h
def l0 : List Row := [⟨50, 100, 400, 1000, 2500⟩, ⟨50, 150, 400, 1000, 3600⟩, ⟨75, 100, 600, 1500, 2800⟩]
noncomputable def TL (G : List (Nat × Obj)) : Tb := ((((tb0 G).plus 55 (inst [slE l0, .i 1, .i 1, .i 400, .i 1000] (.i 0))).plus 56 csEx_t).plus 57 fitEx_t).plus 60 bySize_t
noncomputable def DL (G : List (Nat × Obj)) : Tb := Tb.deepX Tryz.prog (TL G) [] 12
def isSz (x : AV) : Bool :=
  match x with
  | .tup 2 vs => agOk Sz (vs 0) && decide (agD (vs 0) = (⟨0, 50, 150⟩ : Sz)) && (match vs 1 with | .v (.int .i64 0) => true | _ => false)
  | _ => false
theorem isSz_avM (x : AV) (h : isSz x = true) : avM x (.tup 2 (listFn [agE (⟨0, 50, 150⟩ : Sz), .i 0])) := by
  unfold isSz at h
  split at h
  · rename_i vs
    simp only [Bool.and_eq_true, decide_eq_true_eq] at h
    refine ⟨rfl, allB_of fun i hi => ?_⟩
    match i, hi with
    | 0, _ =>
      show avM (vs 0) (agE (⟨0, 50, 150⟩ : Sz))
      exact h.1.2 ▸ agE_sound h.1.1
    | 1, _ =>
      show avM (vs 1) (.i 0)
      have h1 := h.2
      split at h1
      · rename_i ha; rw [ha]; exact avM_refl _
      · cases h1
  · cases h
theorem TL_sound {G : List (Nat × Obj)} (hG : TabIn G) : TbSound Tryz.prog (TL G) :=
  TbSound.plus (TbSound.plus (TbSound.plus (TbSound.plus tb0_sound (inst_T (PureCall.mono (ask_C l0 1 1 400 1000)))) (PureT.mono csEx_T)) (fitEx_T hG)) (PureT.mono bySize_T)
theorem least_vc (G : List (Nat × Obj)) :
 let q1 := (Array.getD (Value.cells (Value.agg #[Value.int .i64 (0 : Int), Value.int .i64 (0 : Int), Value.int .i64 (0 : Int)])) 0 undef); Wk [AV.xl false 5 3 fun i j => Enc.enc (List.getD l0 i Enc.dflt) j, AV.v (Value.int .i64 (1 : Int)), AV.v (Value.int .i64 (1 : Int)), AV.v (Value.int .i64 (400 : Int)), AV.v (Value.int .i64 (1000 : Int))] [AV.xl false 5 3 fun i j => Enc.enc (List.getD l0 i Enc.dflt) j, AV.v (Value.int .i64 (1 : Int)), AV.v (Value.int .i64 (1 : Int)), AV.v (Value.int .i64 (400 : Int)), AV.v (Value.int .i64 (1000 : Int))] ∧ (bsel true (ltB (0 : Int) ((0 : Int) + (1 : Int))) =
 true → okS (agD (AV.agg 3 fun (x : Nat) => if 1 < 1 then Sx.rowAt [listFn [AV.v q1, AV.v (Value.int .i64 (Row.w (List.getD l0 1 Enc.dflt))), AV.v (Value.int .i64 (Row.d (List.getD l0 1 Enc.dflt)))]] 1 (0 + x) else Sx.rowAt [listFn [AV.v q1, AV.v (Value.int .i64 (Row.w (List.getD l0 2 Enc.dflt))), AV.v (Value.int .i64 (Row.d (List.getD l0 2 Enc.dflt)))]] 0 (0 + x))) = true) ∧ (bsel true (ltB (0 : Int) ((0 : Int) + (1 : Int))) = true → okS (agD (AV.agg 3 fun (x : Nat) => if 0 < 1 then Sx.rowAt [listFn [AV.v q1, AV.v (Value.int .i64 (Row.w (List.getD l0 1 Enc.dflt))), AV.v (Value.int .i64 (Row.d
 (List.getD l0 1 Enc.dflt)))]] 0 (0 + x) else Sx.rowAt [listFn [AV.v q1, AV.v (Value.int .i64 (Row.w (List.getD l0 2 Enc.dflt))), AV.v (Value.int .i64 (Row.d (List.getD l0 2 Enc.dflt)))]] 0 (0 + x))) = true) ∧ True := by
  dsimp only
  exact ⟨Wk.refl _, fun _ => rfl, fun _ => rfl, trivial⟩
theorem least_C {G : List (Nat × Obj)} (hG : TabIn G) : PureCall Tryz.prog G 17 [slE l0, .i 400, .i 1000, .str sA] (.tup 2 (listFn [agE (⟨0, 50, 150⟩ : Sz), .i 0])) :=
  pure_of_vcC mixed (TbSound.deepX mixed (TL_sound hG) [] 12) isSz_avM (Eq.mp (by kernel_rfl) (least_vc G) : vcFnC Tryz.prog (DL G) 17 .auto [slE l0, .i 400, .i 1000, .str sA] isSz)
noncomputable def TAl (G : List (Nat × Obj)) : Tb := ((((tb0 G).plus 55 (inst [slE l0, .i 75, .i 150, .i 400, .i 1000] (.i 0))).plus 56 csEx_t).plus 57 fitEx_t).plus 58 (inst [slE l0, .i 75, .i 150, .i 400, .i 1000] (.i 3600))
theorem TAl_sound {G : List (Nat × Obj)} (hG : TabIn G) : TbSound Tryz.prog (TAl G) :=
  TbSound.plus (TbSound.plus (TbSound.plus (TbSound.plus tb0_sound (inst_T (PureCall.mono (ask_C l0 75 150 400 1000)))) (PureT.mono csEx_T)) (fitEx_T hG)) (inst_T (PureCall.mono (allowed_C l0 75 150 400 1000)))
theorem allows_vc (G : List (Nat × Obj)) :
 Wk [AV.xl false 5 3 fun i j => Enc.enc (List.getD l0 i Enc.dflt) j, AV.v (Value.int .i64 (75 : Int)), AV.v (Value.int .i64 (150 : Int)), AV.v (Value.int .i64 (400 : Int)), AV.v (Value.int .i64 (1000 : Int))] [AV.xl false 5 3 fun i j => Enc.enc (List.getD l0 i Enc.dflt) j, AV.v (Value.int .i64 (75 : Int)), AV.v (Value.int .i64 (150 : Int)), AV.v (Value.int .i64 (400 : Int)), AV.v (Value.int .i64 (1000 : Int))] ∧ Wk [AV.xl false 5 3 fun i j => Enc.enc (List.getD l0 i Enc.dflt) j, AV.v (Value.int .i64 (75 : Int)), AV.v (Value.int .i64 (150 : Int)), AV.v (Value.int .i64 (400 : Int)), AV.v
 (Value.int .i64 (1000 : Int))] [AV.xl false 5 3 fun i j => Enc.enc (List.getD l0 i Enc.dflt) j, AV.v (Value.int .i64 (75 : Int)), AV.v (Value.int .i64 (150 : Int)), AV.v (Value.int .i64 (400 : Int)), AV.v (Value.int .i64 (1000 : Int))] ∧ True := by
  exact ⟨Wk.refl _, Wk.refl _, trivial⟩
theorem allowsX_C {G : List (Nat × Obj)} (hG : TabIn G) : PureCall Tryz.prog G 15 [slE l0, .i 75, .i 150, .i 400, .i 1000, .str sB] (.tup 2 (listFn [.b false, .i 0])) :=
  pure_of_vcC mixed (TAl_sound hG) isBI_avM (Eq.mp (by kernel_rfl) (allows_vc G) : vcFnC Tryz.prog (TAl G) 15 .auto [slE l0, .i 75, .i 150, .i 400, .i 1000, .str sB] (isBI false))
def isL (x : AV) : Bool := slOk Row x && decide (rowsOf x = l0)
theorem isL_avM {x : AV} (h : isL x = true) : avM x (slE l0) := by
  simp only [isL, Bool.and_eq_true, decide_eq_true_eq] at h
  exact h.2 ▸ slE_sound h.1
def exF_t : List AV → Option (List Cond × AV)
  | [x, .v (.int .i64 w), .v (.int .i64 d), .v (.int .i64 s), .v (.int .i64 q)] => some ([.b (isL x)], .tup 2 (listFn [.i (findV l0 w d s q), .i (findE l0 w d s q)]))
  | _ => none
theorem exF_T : PureT Tryz.prog [] 16 exF_t := by
  intro xs ps r h hp
  unfold exF_t at h
  split at h
  · cases h
    exact weaken (ys := [_, _, _, _, _]) ⟨isL_avM (hp _ List.mem_cons_self), avM_refl _, avM_refl _, avM_refl _, avM_refl _, trivial⟩ (find_C l0 _ _ _ _)
  · cases h
def exL_t : List AV → Option (List Cond × AV)
  | [x, .v (.int .i64 s), .v (.int .i64 q), .str a] => some ([.b (isL x), .b (s == 400), .b (q == 1000), .b (a == sA)], .tup 2 (listFn [agE (⟨0, 50, 150⟩ : Sz), .i 0]))
  | _ => none
theorem exL_T {G : List (Nat × Obj)} (hG : TabIn G) : PureT Tryz.prog G 17 exL_t := by
  intro xs ps r h hp
  unfold exL_t at h
  split at h
  · rename_i x s q a
    cases h
    have h1 : s = 400 := eq_of_beq (hp _ (List.mem_cons_of_mem _ List.mem_cons_self))
    have h2 : q = 1000 := eq_of_beq (hp _ (List.mem_cons_of_mem _ (List.mem_cons_of_mem _ List.mem_cons_self)))
    have h3 : (a == sA) = true := hp _ (List.mem_cons_of_mem _ (List.mem_cons_of_mem _ (List.mem_cons_of_mem _ List.mem_cons_self)))
    obtain rfl := eq_of_beq h3
    subst h1 h2
    exact weaken (ys := [_, _, _, _]) ⟨isL_avM (hp _ List.mem_cons_self), avM_refl _, avM_refl _, avM_refl _, trivial⟩ (least_C hG)
  · cases h
def exA_t : List AV → Option (List Cond × AV)
  | [x, .v (.int .i64 w), .v (.int .i64 d), .v (.int .i64 s), .v (.int .i64 q), .str a] => some ([.b (isL x), .b (w == 75), .b (d == 150), .b (s == 400), .b (q == 1000), .b (a == sB)], .tup 2 (listFn [.b false, .i 0]))
  | _ => none
theorem exA_T {G : List (Nat × Obj)} (hG : TabIn G) : PureT Tryz.prog G 15 exA_t := by
  intro xs ps r h hp
  unfold exA_t at h
  split at h
  · rename_i x w d s q a
    cases h
    have k1 := List.mem_cons_of_mem (.b (isL x)) (List.mem_cons_self (a := Cond.b (w == 75)) (l := [.b (d == 150), .b (s == 400), .b (q == 1000), .b (a == sB)]))
    have h1 : w = 75 := eq_of_beq (hp _ k1)
    have h2 : d = 150 := eq_of_beq (hp (.b (d == 150)) (by simp))
    have h3 : s = 400 := eq_of_beq (hp (.b (s == 400)) (by simp))
    have h4 : q = 1000 := eq_of_beq (hp (.b (q == 1000)) (by simp))
    have h5 : (a == sB) = true := hp (.b (a == sB)) (by simp)
    obtain rfl := eq_of_beq h5
    subst h1 h2 h3 h4
    exact weaken (ys := [_, _, _, _, _, _]) ⟨isL_avM (hp _ List.mem_cons_self), avM_refl _, avM_refl _, avM_refl _, avM_refl _, avM_refl _, trivial⟩ (allowsX_C hG)
  · cases h
noncomputable def TAw (G : List (Nat × Obj)) : Tb := (((tb0 G).plus 16 exF_t).plus 17 exL_t).plus 15 exA_t
theorem TAw_sound {G : List (Nat × Obj)} (hG : TabIn G) : TbSound Tryz.prog (TAw G) :=
  TbSound.plus (TbSound.plus (TbSound.plus tb0_sound (PureT.mono exF_T)) (exL_T hG)) (exA_T hG)
theorem awake_vc (G : List (Nat × Obj)) :
 True := by
  trivial
theorem awake_C {G : List (Nat × Obj)} (hG : TabIn G) : PureCall Tryz.prog G 13 [] (.b true) :=
  pure_of_vcC mixed (TAw_sound hG) isT_avM (Eq.mp (by kernel_rfl) (awake_vc G) : vcFnC Tryz.prog (TAw G) 13 .auto [] isT)
end Go.Te
