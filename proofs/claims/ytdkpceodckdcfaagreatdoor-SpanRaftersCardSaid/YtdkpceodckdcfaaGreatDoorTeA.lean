/- Contracts of small functions of the package span and its reference. -/
import Derived.Test.YtdkpceodckdcfaaGreatDoorArS
import Derived.Test.YtdkpceodckdcfaaGreatDoorProg
set_option linter.unusedSimpArgs false
set_option linter.unusedVariables false
namespace Go.Te
open Go Go.Sx Go.Proofs Go.Ar
set_option maxRecDepth 100000
set_option maxHeartbeats 4000000
theorem mixed : Tryz.prog.follows .mixedOrders = true := by kernel_rfl
abbrev T0 : Tb := tb0 []
def within_t : List AV → Option (List Cond × AV)
 | [.v (.int .i64 n), .v (.int .i64 a), .v (.int .i64 b)] => some ([], .b (between n a b))
 | _ => none
theorem within_vc (n : Int) (a : Int) (b : Int) :
 bndL [aI n, aI a, aI b] → bsplit (!bsel true (leB a n) || bsel true (leB a n)) (bsplit (!bsel true (leB a n) || bsel true (leB a n)) (bsplit (!leB a n || bsel true (leB a n)) ((bif leB a n then leB n b else false) = between n a b) False) False) False := by
 delta aI
 intro _
 unfold between
 simp only [bsel_true, vc_own, ge_iff_le, leB_eq, vc_grd]; grind
theorem within_C (n : Int) (a : Int) (b : Int) : PureCall Tryz.prog [] 75 [.i n, .i a, .i b] (.b (between n a b)) :=
 pure_of_vc (T := T0) (an := .auto) mixed tb0_sound (Eq.mp (by kernel_rfl) (within_vc n a b))
theorem within_T : PureT Tryz.prog [] 75 within_t := by
 intro xs ps r h hp
 unfold within_t at h
 split at h
 ·skip
  rename_i n a b
  cases h
  exact weaken (ys := [.i n, .i a, .i b]) ⟨avM_refl _, avM_refl _, avM_refl _, trivial⟩ (within_C n a b)
 ·cases h
def TA1 : Tb := T0.plus 75 within_t
theorem TA1_sound : TbSound Tryz.prog TA1 := TbSound.plus tb0_sound within_T
def conds_t : List AV → Option (List Cond × AV)
 | [.v (.int .i64 s), .v (.int .i64 q)] => some ([], .b (condB s q))
 | _ => none
theorem conds_vc (s : Int) (q : Int) :
 bndL [aI s, aI q] → bsplit (!bsel true (between s iO (65536 : Int)) || bsel true (between s iO (65536 : Int))) (bsplit (!between s iO (65536 : Int) || bsel true (between s iO (65536 : Int))) ((bif between s iO (65536 : Int) then between q iZ (1048576 : Int) else false) = condB s q) False) False := by
 delta iZ iO aI
 intro _
 unfold condB
 simp only [sS, agD_row, agOk_row, agD_row', agOk_row']
theorem conds_C (s : Int) (q : Int) : PureCall Tryz.prog [] 122 [.i s, .i q] (.b (condB s q)) :=
 pure_of_vc (T := TA1) (an := .auto) mixed TA1_sound (Eq.mp (by kernel_rfl) (conds_vc s q))
theorem conds_T : PureT Tryz.prog [] 122 conds_t := by
 intro xs ps r h hp
 unfold conds_t at h
 split at h
 ·skip
  rename_i s q
  cases h
  exact weaken (ys := [.i s, .i q]) ⟨avM_refl _, avM_refl _, trivial⟩ (conds_C s q)
 ·cases h
def TA2 : Tb := TA1.plus 122 conds_t
theorem TA2_sound : TbSound Tryz.prog TA2 := TbSound.plus TA1_sound conds_T
def ranged_t : List AV → Option (List Cond × AV)
 | [.v (.int .i64 w), .v (.int .i64 d), .v (.int .i64 s), .v (.int .i64 q)] => some ([], .b (rangB w d s q))
 | _ => none
theorem ranged_vc (w : Int) (d : Int) (s : Int) (q : Int) :
 let q2 := (bif between w iO (1000 : Int) then between d iO (1000 : Int) else false); let q1 := (!bsel true q2 || bsel true q2); bndL [aI w, aI d, aI s, aI q] → bsplit (!bsel true (between w iO (1000 : Int)) || bsel true (between w iO (1000 : Int))) (bsplit (!between w iO (1000 : Int) || bsel true (between w iO (1000 : Int))) (bsplit q1 (bsplit q1 (bsplit ((!bif between w iO (1000 : Int) then between d iO (1000 : Int) else false) || bsel true q2) ((bif bif between w
 iO (1000 : Int) then between d iO (1000 : Int) else false then condB s q else false) = rangB w d s q) False) False) False) False) False := by
 delta iO aI
 dsimp only
 intro _
 unfold rangB
 simp only [sS, agD_row, agOk_row, agD_row', agOk_row']
theorem ranged_C (w : Int) (d : Int) (s : Int) (q : Int) : PureCall Tryz.prog [] 74 [.i w, .i d, .i s, .i q] (.b (rangB w d s q)) :=
 pure_of_vc (T := TA2) (an := .auto) mixed TA2_sound (Eq.mp (by kernel_rfl) (ranged_vc w d s q))
theorem ranged_T : PureT Tryz.prog [] 74 ranged_t := by
 intro xs ps r h hp
 unfold ranged_t at h
 split at h
 ·skip
  rename_i w d s q
  cases h
  exact weaken (ys := [.i w, .i d, .i s, .i q]) ⟨avM_refl _, avM_refl _, avM_refl _, avM_refl _, trivial⟩ (ranged_C w d s q)
 ·cases h
def outside_t : List AV → Option (List Cond × AV)
 | [.v (.int .i64 n), .v (.int .i64 a), .v (.int .i64 b)] => some ([], .b (!between n a b))
 | _ => none
theorem outside_vc (n : Int) (a : Int) (b : Int) :
 bndL [aI n, aI a, aI b] → bsplit (!bsel false (ltB n a) || bsel false (ltB n a)) (bsplit (!bsel false (ltB n a) || bsel false (ltB n a)) (bsplit (!!ltB n a || bsel false (ltB n a)) ((bif ltB n a then true else ltB b n) = !between n a b) False) False) False := by
 delta aI
 intro _
 unfold between
 simp only [bsel_false, vc_grd, ltB_eq, leB_eq]; grind
theorem outside_C (n : Int) (a : Int) (b : Int) : PureCall Tryz.prog [] 63 [.i n, .i a, .i b] (.b (!between n a b)) :=
 pure_of_vc (T := T0) (an := .auto) mixed tb0_sound (Eq.mp (by kernel_rfl) (outside_vc n a b))
theorem outside_T : PureT Tryz.prog [] 63 outside_t := by
 intro xs ps r h hp
 unfold outside_t at h
 split at h
 ·skip
  rename_i n a b
  cases h
  exact weaken (ys := [.i n, .i a, .i b]) ⟨avM_refl _, avM_refl _, avM_refl _, trivial⟩ (outside_C n a b)
 ·cases h
def TA3 : Tb := T0.plus 63 outside_t
theorem TA3_sound : TbSound Tryz.prog TA3 := TbSound.plus tb0_sound outside_T
def rconds_t : List AV → Option (List Cond × AV)
 | [.v (.int .i64 w), .v (.int .i64 d), .v (.int .i64 s), .v (.int .i64 q)] => some ([], .i (bif rangB w d s q then 0 else 2))
 | _ => none
theorem rconds_vc (w : Int) (d : Int) (s : Int) (q : Int) :
 let q1 := (bif !between w iO (1000 : Int) then true else !between d iO (1000 : Int)); let q2 := (bif bif !between w iO (1000 : Int) then true else !between d iO (1000 : Int) then true else !between s iO (65536 : Int)); bndL [aI w, aI d, aI s, aI q] → bsplit (!bsel false !between w iO (1000 : Int) || bsel false !between w iO (1000 : Int)) (bsplit (!!!between w iO (1000 : Int) || bsel false !between w iO (1000 : Int)) (bsplit (!bsel false q1 || bsel false q1)
 (bsplit ((!!bif !between w iO (1000 : Int) then true else !between d iO (1000 : Int)) || bsel false q1) (bsplit (!bsel false q2 || bsel false q2) (bsplit ((!!bif bif !between w iO (1000 : Int) then true else !between d iO (1000 : Int) then true else !between s iO (65536 : Int)) || bsel false q2) (bsplit (bif bif bif !between w iO (1000 : Int) then true else !between d iO (1000 : Int) then true else !between s iO (65536 : Int) then true else !between q iZ (1048576 : Int)) (kI ∧ (2 : Int) = bif rangB w d s q then (0 :
 Int) else (2 : Int)) (kI ∧ iZ = bif rangB w d s q then iZ else (2 : Int))) False) False) False) False) False) False := by
 delta kI iZ iO aI
 dsimp only
 intro _
 unfold rangB condB
 simp only [sS, agD_row, agOk_row, agD_row', agOk_row']
 cases between w 1 1000 <;> cases between d 1 1000 <;> cases between s 1 65536 <;> cases between q 0 1048576 <;> trivial
theorem rconds_C (w : Int) (d : Int) (s : Int) (q : Int) : PureCall Tryz.prog [] 62 [.i w, .i d, .i s, .i q] (.i (bif rangB w d s q then 0 else 2)) :=
 pure_of_vc (T := TA3) (an := .auto) mixed TA3_sound (Eq.mp (by kernel_rfl) (rconds_vc w d s q))
theorem rconds_T : PureT Tryz.prog [] 62 rconds_t := by
 intro xs ps r h hp
 unfold rconds_t at h
 split at h
 ·skip
  rename_i w d s q
  cases h
  exact weaken (ys := [.i w, .i d, .i s, .i q]) ⟨avM_refl _, avM_refl _, avM_refl _, avM_refl _, trivial⟩ (rconds_C w d s q)
 ·cases h
def orF (g : Nat → Int) : Nat → Nat → Int
 | 0, _ => 0
 | n + 1, i => bif g i == 0 then orF g n (i + 1) else g i
theorem orF_skip {g : Nat → Int} : ∀ {k n : Nat}, k ≤ n → (∀ i, i < k → g i = 0) → orF g n 0 = orF g (n - k) k
 | 0, n, _, _ => by simp
 | k + 1, n, hk, h => by
  rw [orF_skip (k := k) (by omega) fun i hi => h i (by omega)]
  obtain ⟨m, hm⟩ : ∃ m, n - k = m + 1 := ⟨n - k - 1, by omega⟩
  rw [hm, orF, h k (by omega)]
  simp only [beq_self_eq_true, cond_true]
  congr 1
  omega
def or_an (len : Nat) (g : Nat → Int) : Ann :=
 .two .auto (.two .auto (.two (.two .auto (.one (.loop Nat (fun σ z => [(0, σ.tm 0), (3, .i 0), (6, σ.tm 0), (7, .i len), (8, .i z)]) (fun _ _ => []) 0 (fun _ z => z ≤ len ∧ ∀ i, i < z → g i = 0) (fun _ z => len - z) .auto))) .auto))
def allI (len : Nat) (els : Nat → Nat → AV) : Bool := allN (fun i => isI64 (els i 0)) len
theorem allI_avM {f : Bool} {len : Nat} {els : Nat → Nat → AV} (h : allI len els = true) : avM (.xl f 1 len els) (.xl f 1 len fun i _ => .i (AV.int (els i 0))) := by
 refine ⟨fun h => h, rfl, rfl, fun i j hi hj => ?_⟩
 obtain rfl : j = 0 := by omega
 exact avM_of_eq (isI64_eq (allN_true h i hi))
theorem or_vc (f : Bool) (len : Nat) (g : Nat → Int) :
 let q1 := (AV.xl f 1 len fun (i x : Nat) => aI (g i)); let q2 := (kI ∧ iZ = iZ); let q3 := (kI ∧ (↑len : Int) = (↑len : Int)); bndL [AV.xl f 1 len fun (i x : Nat) => aI (g i)] → (∃ (z : Nat), ((z ≤ len ∧ ∀ (i : Nat), i < z → g i = iZ) ∧ avM q1 q1 ∧ q2 ∧ avM q1 q1 ∧ q3 ∧ kI ∧ iZ = (↑z : Int)) ∧ True) ∧ ∀ (z : Nat), (z ≤ len ∧ ∀ (i : Nat), i < z → g i = iZ) → bsplit (ltB (↑z : Int) (↑len : Int)) (bsplit (DB.db (iZ ≤ (↑z : Int) ∧ (↑z : Int) < (↑len : Int))) (bsplit (g
 (Int.toNat (↑z : Int)) != iZ) (kI ∧ g (Int.toNat (↑z : Int)) = orF g len 0) (bsplit (DB.db (inK .i64 ((↑z : Int) + iO))) (∃ (z' : Nat), (((z' ≤ len ∧ ∀ (i : Nat), i < z' → g i = iZ) ∧ len - z' < len - z) ∧ avM q1 q1 ∧ q2 ∧ avM q1 q1 ∧ q3 ∧ kI ∧ (↑z : Int) + iO = (↑z' : Int)) ∧ True) False)) False) (kI ∧ iZ = orF g len 0) := by
 delta kI iZ iO aI
 dsimp only
 intro hb
 replace hb := hb.1
 refine ⟨⟨0, ⟨⟨by omega, fun i hi => by omega⟩, avM_refl _, ⟨rfl, rfl⟩, avM_refl _, ⟨rfl, rfl⟩, rfl, rfl⟩, trivial⟩, ?_⟩
 rintro z ⟨h1, h2⟩
 simp only [vc_db, vc_lt, vc_ne]
 simp only [inK, Int.toNat_natCast]
 have hs := orF_skip h1 h2
 refine ⟨fun hlt => ⟨⟨by omega, by omega⟩, fun hz => ⟨trivial, ?_⟩, fun hz => ⟨by omega, z + 1, ⟨⟨⟨by omega, fun i hi => ?_⟩, by omega⟩, avM_refl _, ⟨trivial, trivial⟩, avM_refl _, ⟨trivial, trivial⟩, trivial, by omega⟩, trivial⟩⟩, fun hge => ⟨trivial, ?_⟩⟩
 ·obtain ⟨m, hm⟩ : ∃ m, len - z = m + 1 := ⟨len - z - 1, by omega⟩
  rw [hs, hm, orF, show (g z == 0) = false from beq_eq_false_iff_ne.2 hz]
  rfl
 ·by_cases e : i = z
  ·rw [e]; exact hz
  ·exact h2 i (by omega)
 ·rw [hs, show len - z = 0 by omega]
  rfl
def or_t : List AV → Option (List Cond × AV)
 | [.xl _ 1 len els] => some ([.b (allI len els)], .i (orF (fun i => AV.int (els i 0)) len 0))
 | _ => none
theorem or_T : PureT Tryz.prog [] 114 or_t := by
 intro xs ps r h hp
 unfold or_t at h
 split at h
 ·rename_i f len els
  cases h
  refine weaken (ys := [_]) ⟨allI_avM (hp _ List.mem_cons_self), trivial⟩ ?_
  exact pure_of_vc mixed tb0_sound (Eq.mp (by kernel_rfl) (or_vc f len fun i => AV.int (els i 0)) : vcFn Tryz.prog T0 114 (or_an len fun i => AV.int (els i 0)) [.xl f 1 len fun i _ => .i (AV.int (els i 0))] (.i (orF (fun i => AV.int (els i 0)) len 0)))
 ·cases h
def smB (n : Int) : Bool := between n (-1073741824) 1073741824
def smR (a : Row) : Bool := smB a.w && smB a.d && smB a.s && smB a.q
theorem smR_iff {a : Row} (h : smR a = true) : (-1073741824 ≤ a.w ∧ a.w ≤ 1073741824) ∧ (-1073741824 ≤ a.d ∧ a.d ≤ 1073741824) ∧ (-1073741824 ≤ a.s ∧ a.s ≤ 1073741824) ∧ (-1073741824 ≤ a.q ∧ a.q ≤ 1073741824) := by
 unfold smR smB at h
 simp only [Bool.and_eq_true, between_iff] at h
 exact ⟨h.1.1.1, h.1.1.2, h.1.2, h.2⟩
theorem rang_sm {a : Row} (h : rangB a.w a.d a.s a.q = true) : smR a = true := by
 unfold rangB condB at h
 simp only [Bool.and_eq_true, between_iff] at h
 unfold smR smB
 simp only [Bool.and_eq_true, between_iff]
 omega
def TA4 : Tb := T0.plus 114 or_t
theorem TA4_sound : TbSound Tryz.prog TA4 := TbSound.plus tb0_sound or_T
def order_t : List AV → Option (List Cond × AV)
 | [x_a, x_b] => some ([.b (agOk Row x_a), .b (agOk Row x_b), .p (smR (agD (α := Row) x_a) = true), .p (smR (agD (α := Row) x_b) = true)], .i (ordR (agD (α := Row) x_a) (agD (α := Row) x_b)))
 | _ => none
theorem order_vc (a : Row) (b : Row) (h1 : smR a = true) (h2 : smR b = true) :
 bndL [AV.agg 5 (Enc.enc a), AV.agg 5 (Enc.enc b)] → bsplit (DB.db (inK .i64 (Row.w a - Row.w b))) (bsplit (DB.db (inK .i64 (Row.d a - Row.d b))) (bsplit (DB.db (inK .i64 (Row.s a - Row.s b))) (bsplit (DB.db (inK .i64 (Row.q a - Row.q b))) (kI ∧ orF (fun (i : Nat) => AV.int (Sx.rowAt [fun (x : Nat) => aI (Row.w a - Row.w b), fun (x : Nat) => aI (Row.d a - Row.d b), fun (x : Nat) => aI (Row.s a - Row.s b), fun (x : Nat) => aI (Row.q a - Row.q b)] i 0)) 4 0 = ordR a b) False) False) False) False := by
 delta kI aI
 intro _
 have g1 := smR_iff h1
 have g2 := smR_iff h2
 simp only [sS, agD_row, agOk_row, agD_row', agOk_row', okIn, okIn', deI, deI', okR, okR', deR, deR', deRo, deRo']
 refine ⟨⟨by omega, by omega⟩, ⟨by omega, by omega⟩, ⟨by omega, by omega⟩, ⟨by omega, by omega⟩, ?_⟩
 show (bif a.w - b.w == 0 then (bif a.d - b.d == 0 then (bif a.s - b.s == 0 then (bif a.q - b.q == 0 then (0 : Int) else a.q - b.q) else a.s - b.s) else a.d - b.d) else a.w - b.w) = ordR a b
 unfold ordR
 generalize a.w - b.w = x1
 generalize a.d - b.d = x2
 generalize a.s - b.s = x3
 generalize a.q - b.q = x4
 have e : ∀ (x A B : Int), (bif x == 0 then A else B) = bif x != 0 then B else A := fun x A B => by
  show _ = bif !(x == 0) then B else A
  cases x == 0 <;> rfl
 have e4 : (bif x4 == 0 then (0 : Int) else x4) = x4 := by
  cases h : x4 == 0 with
  | true => exact (eq_of_beq h).symm
  | false => rfl
 rw [e4, e, e, e]
theorem order_C (a : Row) (b : Row) (h1 : smR a = true) (h2 : smR b = true) : PureCall Tryz.prog [] 76 [agE a, agE b] (.i (ordR a b)) :=
 pure_of_vc (T := TA4) (an := .auto) mixed TA4_sound (Eq.mp (by kernel_rfl) (order_vc a b h1 h2))
theorem order_T : PureT Tryz.prog [] 76 order_t := by
 intro xs ps r h hp
 unfold order_t at h
 split at h
 ·skip
  rename_i x_a x_b
  cases h
  obtain ⟨q0, q1, q2, q3, -⟩ := allC hp
  exact weaken (ys := [agE (agD (α := Row) x_a), agE (agD (α := Row) x_b)]) ⟨agE_sound q0, agE_sound q1, trivial⟩ (order_C (agD (α := Row) x_a) (agD (α := Row) x_b) q2 q3)
 ·cases h
def TA5 : Tb := ((T0.plus 75 within_t).plus 74 ranged_t).plus 76 order_t
theorem TA5_sound : TbSound Tryz.prog TA5 := TbSound.plus (TbSound.plus (TbSound.plus tb0_sound within_T) ranged_T) order_T
def check_an (l : List Row) : Ann :=
 .two .auto (.two .auto (.two (.two .auto (.one (.loop Nat (fun σ z => [(0, σ.tm 0), (8, σ.tm 8), (9, σ.tm 9), (10, .i z)]) (fun σ z => []) 0 (fun σ z => z ≤ l.length ∧ ∀ i, i < z → rowE l i = 0) (fun σ z => l.length - z) .auto))) .auto))
def check_t : List AV → Option (List Cond × AV)
 | [x_l] => some ([.b (slOk Row x_l)], .i (tabE (rowsOf x_l)))
 | _ => none
theorem check_vc (l : List Row) :
 let q1 := (AV.xl false 5 (lN l) fun i j => Enc.enc (gD l i Enc.dflt) j); let q2 := (kI ∧ (lZ l) = (lZ l)); bndL [AV.xl false 5 (lN l) fun i j => Enc.enc (gD l i Enc.dflt) j] → bsplit (ltB (4096 : Int) (lZ l)) (kI ∧ (4 : Int) = tabE l) ((∃ (z : Nat), ((z ≤ lN l ∧ ∀ (i : Nat), i < z → rowE l i = iZ) ∧ avM q1 q1 ∧ avM q1 q1 ∧ q2 ∧ kI ∧ iZ = (↑z : Int)) ∧ True) ∧ ∀ (z : Nat), let q5 := (gD l (Int.toNat (↑z : Int)) Enc.dflt); let q4 :=
 (Row.w q5); let q6 := (Row.d q5); let q7 := (Row.s q5); let q8 := (Row.q q5); let q3 := (!bsel false !rangB q4 q6 q7 q8 || bsel false !rangB q4 q6 q7 q8); let q9 := (!bsel true (ltB iZ (↑z : Int)) || bsel true (ltB iZ (↑z : Int))); let q10 := (AV.agg 5 fun (i : Nat) => Enc.enc (gD l (Int.toNat ((↑z : Int) - iO)) Enc.dflt) (0 + i)); let q11 := (AV.agg 5 fun (i : Nat) => if 0 ≤ 0 + i ∧ 0 + i < 5 then (fun i j => Enc.enc (gD l i Enc.dflt) j) (Int.toNat (↑z : Int)) (0 + (0 + i - 0)) else zcell (Value.agg #[Value.int .i64 iZ, Value.int .i64 iZ,
 Value.int .i64 iZ, Value.int .i64 iZ, Value.int .i64 iZ]) (0 + i)); let q12 := (agD q10); let q13 := (agD q11); (z ≤ lN l ∧ ∀ (i : Nat), i < z → rowE l i = iZ) → bsplit (ltB (↑z : Int) (lZ l)) (bsplit (DB.db (iZ ≤ (↑z : Int) ∧ (↑z : Int) < (lZ l))) (bsplit q3 (bsplit q3 (bsplit q3 (bsplit (!!!rangB q4 q6 q7 q8 || bsel false !rangB q4 q6 q7 q8) (bsplit (bif !rangB q4 q6 q7 q8 then true else !between (Row.n q5) iO (65536 : Int)) (kI ∧ (2 : Int) = tabE l) (bsplit q9 (bsplit (!bsel true (ltB (0 :
 Int) (↑z : Int)) || DB.db (inK .i64 ((↑z : Int) - iO))) (bsplit q9 (bsplit q9 (bsplit (!bsel true (ltB iZ (↑z : Int)) || DB.db (iZ ≤ (↑z : Int) - iO ∧ (↑z : Int) - iO < (lZ l))) (bsplit q9 (bsplit q9 (bsplit q9 (bsplit (!bsel true (ltB iZ (↑z : Int)) || agOk Row q10) (bsplit (!bsel true (ltB iZ (↑z : Int)) || agOk Row q11) ((bsel true (ltB iZ (↑z : Int)) = true → smR q12 = true) ∧ (bsel true (ltB iZ (↑z : Int)) = true → smR q13 = true) ∧ bsplit q9 (bsplit (!ltB iZ (↑z : Int) || bsel true (ltB iZ (↑z :
 Int))) (bsplit (bif ltB iZ (↑z : Int) then leB iZ (ordR q12 q13) else false) (kI ∧ (10 : Int) = tabE l) (bsplit (DB.db (inK .i64 ((↑z : Int) + iO))) (∃ (z' : Nat), (((z' ≤ lN l ∧ ∀ (i : Nat), i < z' → rowE l i = iZ) ∧ lN l - z' < lN l - z) ∧ avM q1 q1 ∧ avM q1 q1 ∧ q2 ∧ kI ∧ (↑z : Int) + iO = (↑z' : Int)) ∧ True) False)) False) False) False) False) False) False) False) False) False) False) False) False)) False) False) False) False) False) (kI ∧ iZ = tabE l)) := by
 delta kI lZ lN gD iZ iO
 dsimp only
 intro hb
 have e2 : (Enc.dflt : Row) = r0 := rfl
 simp only [sS, agD_row, agOk_row, agD_row', agOk_row', okIn, okIn', deI, deI', okR, okR', deR, deR', deRo, deRo', e2, ltB_nat, pred_nat]
 refine ⟨fun h => by unfold tabE; rw [(blt_iff _ _).2 (by omega)]; rfl, fun h => ?_⟩
 have hT : tabE l = firstN (rowE l) l.length 0 := by
  unfold tabE
  rw [show Nat.blt 4096 l.length = false from Bool.eq_false_iff.2 fun e => by have := (blt_iff _ _).1 e; omega]
  rfl
 have hat : ∀ z v, z < l.length → (∀ i, i < z → rowE l i = 0) → rowE l z = v → v ≠ 0 → v = tabE l := fun z v hz z2 hv hv0 => by
  rw [hT, firstN_at (k := z) hz z2 (by rw [hv]; exact hv0), hv]
 refine ⟨⟨0, ⟨by omega, fun i hi => by omega⟩, rfl⟩, fun z ⟨z1, z2⟩ => ⟨fun hz => ⟨⟨by omega, hz⟩, bsplit_iff.2 ⟨fun c => ?_, fun c => ?_⟩⟩, fun hz => ?_⟩⟩
 ·exact hat z 2 (by omega) z2 (by unfold rowE; rw [c]; rfl) (by decide)
 ·have c' := c
  rw [Bool.or_eq_false_iff, Bool.not_eq_false', Bool.not_eq_false'] at c
  refine ⟨fun hp => ⟨by omega, by omega⟩, fun hp => ?_, fun hp => ?_, fun _ => rang_sm c.1, bsplit_iff.2 ⟨fun c2 => ?_, fun c2 => ⟨⟨by omega, by omega⟩, z + 1, ⟨⟨by omega, fun i hi => ?_⟩, by omega⟩, by omega⟩⟩⟩
  ·have := (blt_iff _ _).1 hp; omega
  ·have := (blt_iff _ _).1 hp
   exact rang_sm (rowE_ok (z2 (z - 1) (by omega))).1
  ·exact hat z 10 (by omega) z2 (by unfold rowE; rw [c', c2]; rfl) (by decide)
  ·by_cases e : i = z
   ·rw [e]; unfold rowE; rw [c', c2]; rfl
   ·exact z2 i (by omega)
 ·rw [hT, firstN_none fun i hi => z2 i (by omega)]
theorem check_C (l : List Row) : PureCall Tryz.prog [] 24 [slE l] (.i (tabE l)) :=
 pure_of_vc (T := TA5) (an := check_an l) mixed TA5_sound (Eq.mp (by kernel_rfl) (check_vc l))
theorem check_T : PureT Tryz.prog [] 24 check_t := by
 intro xs ps r h hp
 unfold check_t at h
 split at h
 ·skip
  rename_i x_l
  cases h
  obtain ⟨q0, -⟩ := allC hp
  exact weaken (ys := [slE (rowsOf x_l)]) ⟨slE_sound q0, trivial⟩ (check_C (rowsOf x_l))
 ·cases h
def befB (a b : Row) : Bool := bif a.w != b.w then ltB a.w b.w else bif a.d != b.d then ltB a.d b.d else bif a.s != b.s then ltB a.s b.s else ltB a.q b.q
theorem bef_ord (a b : Row) : befB a b = !leB 0 (ordR a b) := by
 have key : ∀ x y : Int, ltB x y = !leB 0 (x - y) := fun x y => by
  unfold leB
  rw [Bool.not_not, Bool.eq_iff_iff, ltB_iff, ltB_iff]; omega
 have ne : ∀ x y : Int, (x - y != 0) = (x != y) := fun x y => by
  rw [Bool.eq_iff_iff, bne_iff_ne, bne_iff_ne]; omega
 unfold befB ordR
 rw [ne, ne, ne]
 cases a.w != b.w with
 | true => exact key _ _
 | false =>
 cases a.d != b.d with
 | true => exact key _ _
 | false =>
 cases a.s != b.s with
 | true => exact key _ _
 | false => exact key _ _
def before_t : List AV → Option (List Cond × AV)
 | [x_a, x_b] => some ([.b (agOk Row x_a), .b (agOk Row x_b)], .b (befB (agD (α := Row) x_a) (agD (α := Row) x_b)))
 | _ => none
theorem before_vc (a : Row) (b : Row) :
 bndL [AV.agg 5 (Enc.enc a), AV.agg 5 (Enc.enc b)] → bsplit (Row.w a != Row.w b) (ltB (Row.w a) (Row.w b) = befB a b) (bsplit (Row.d a != Row.d b) (ltB (Row.d a) (Row.d b) = befB a b) (bsplit (Row.s a != Row.s b) (ltB (Row.s a) (Row.s b) = befB a b) (ltB (Row.q a) (Row.q b) = befB a b))) := by
 intro _
 unfold befB
 simp only [sS, agD_row, agOk_row, agD_row', agOk_row', okIn, okIn', deI, deI', okR, okR', deR, deR', deRo, deRo']
 refine ⟨fun h => by rw [bne_iff_ne.2 h]; rfl, fun h => ?_⟩
 rw [show (a.w != b.w) = false from bne_eq_false_iff_eq.2 h]
 refine ⟨fun h => by rw [bne_iff_ne.2 h]; rfl, fun h => ?_⟩
 rw [show (a.d != b.d) = false from bne_eq_false_iff_eq.2 h]
 refine ⟨fun h => by rw [bne_iff_ne.2 h]; rfl, fun h => ?_⟩
 rw [show (a.s != b.s) = false from bne_eq_false_iff_eq.2 h]
 rfl
theorem before_C (a : Row) (b : Row) : PureCall Tryz.prog [] 64 [agE a, agE b] (.b (befB a b)) :=
 pure_of_vc (T := T0) (an := .auto) mixed tb0_sound (Eq.mp (by kernel_rfl) (before_vc a b))
theorem before_T : PureT Tryz.prog [] 64 before_t := by
 intro xs ps r h hp
 unfold before_t at h
 split at h
 ·skip
  rename_i x_a x_b
  cases h
  obtain ⟨q0, q1, -⟩ := allC hp
  exact weaken (ys := [agE (agD (α := Row) x_a), agE (agD (α := Row) x_b)]) ⟨agE_sound q0, agE_sound q1, trivial⟩ (before_C (agD (α := Row) x_a) (agD (α := Row) x_b))
 ·cases h
def TA6 : Tb := ((T0.plus 63 outside_t).plus 62 rconds_t).plus 64 before_t
theorem TA6_sound : TbSound Tryz.prog TA6 := TbSound.plus (TbSound.plus (TbSound.plus tb0_sound outside_T) rconds_T) before_T
def rcheck_an (l : List Row) : Ann :=
 .two .auto (.two .auto (.two (.two .auto (.one (.loop Nat (fun σ z => [(0, σ.tm 0), (3, .i z)]) (fun σ z => []) 0 (fun σ z => z ≤ l.length ∧ ∀ i, i < z → rowE l i = 0) (fun σ z => l.length - z) .auto))) .auto))
def rcheck_t : List AV → Option (List Cond × AV)
 | [x_l] => some ([.b (slOk Row x_l)], .i (tabE (rowsOf x_l)))
 | _ => none
theorem rcheck_vc (l : List Row) :
 let q1 := (AV.xl false 5 (lN l) fun i j => Enc.enc (gD l i Enc.dflt) j); bndL [AV.xl false 5 (lN l) fun i j => Enc.enc (gD l i Enc.dflt) j] → bsplit (ltB (4096 : Int) (lZ l)) (kI ∧ (4 : Int) = tabE l) ((∃ (z : Nat), ((z ≤ lN l ∧ ∀ (i : Nat), i < z → rowE l i = iZ) ∧ avM q1 q1 ∧ kI ∧ iZ = (↑z : Int)) ∧ True) ∧ ∀ (z : Nat), let q3 := (iZ ≤ (↑z : Int) ∧ (↑z : Int) < (lZ l)); let q2 := (DB.db q3); let q7 := (gD l (Int.toNat (↑z : Int)) Enc.dflt); let q6 := (bif
 rangB (Row.w q7) (Row.d q7) (Row.s q7) (Row.q q7) then iZ else (2 : Int)); let q5 := (q6 != iZ); let q4 := (!bsel false q5 || bsel false q5); let q8 := (!bsel true (ltB iZ (↑z : Int)) || bsel true (ltB iZ (↑z : Int))); let q9 := (AV.agg 5 fun (i : Nat) => Enc.enc (gD l (Int.toNat ((↑z : Int) - iO)) Enc.dflt) (0 + i)); let q10 := (AV.agg 5 fun (i : Nat) => Enc.enc q7 (0 + i)); (z ≤ lN l ∧ ∀ (i : Nat), i < z → rowE l i = iZ) → bsplit (ltB (↑z : Int) (lZ l)) (bsplit q2 (bsplit q2 (bsplit q2 (bsplit q2 (bsplit q4 (bsplit q4
 (bsplit (!bsel false q5 || DB.db q3) (bsplit q4 (bsplit q4 (bsplit q4 (bsplit (!!q6 != iZ || bsel false q5) (bsplit (bif q6 != iZ then true else !between (Row.n q7) iO (65536 : Int)) (kI ∧ (2 : Int) = tabE l) (bsplit q8 (bsplit (!bsel true (ltB iZ (↑z : Int)) || DB.db (inK .i64 ((↑z : Int) - iO))) (bsplit q8 (bsplit q8 (bsplit (!bsel true (ltB iZ (↑z : Int)) || DB.db (iZ ≤ (↑z : Int) - iO ∧ (↑z : Int) - iO < (lZ l))) (bsplit q8 (bsplit q8 (bsplit q8 (bsplit (!bsel true (ltB iZ (↑z : Int)) ||
 DB.db q3) (bsplit q8 (bsplit q8 (bsplit q8 (bsplit (!bsel true (ltB iZ (↑z : Int)) || agOk Row q9) (bsplit (!bsel true (ltB iZ (↑z : Int)) || agOk Row q10) (bsplit q8 (bsplit (!ltB iZ (↑z : Int) || bsel true (ltB iZ (↑z : Int))) (bsplit (bif ltB iZ (↑z : Int) then !befB (agD q9) (agD q10) else false) (kI ∧ (10 : Int) = tabE l) (bsplit (DB.db (inK .i64 ((↑z : Int) + iO))) (∃ (z' : Nat), (((z' ≤ lN l ∧ ∀ (i : Nat), i < z' → rowE l i = iZ) ∧ lN l - z' < lN l - z) ∧ avM q1 q1 ∧ kI ∧ (↑z :
 Int) + iO = (↑z' : Int)) ∧ True) False)) False) False) False) False) False) False) False) False) False) False) False) False) False) False) False) False)) False) False) False) False) False) False) False) False) False) False) False) (kI ∧ iZ = tabE l)) := by
 delta kI lZ lN gD iZ iO
 dsimp only
 intro hb
 have e2 : (Enc.dflt : Row) = r0 := rfl
 have e3 : ∀ t : Bool, ((bif t then (0 : Int) else 2) != 0) = !t := fun t => by cases t <;> rfl
 simp only [sS, agD_row, agOk_row, agD_row', agOk_row', okIn, okIn', deI, deI', okR, okR', deR, deR', deRo, deRo', e2, ltB_nat, pred_nat, bef_ord, e3, Bool.not_not]
 refine ⟨fun h => by unfold tabE; rw [(blt_iff _ _).2 (by omega)]; rfl, fun h => ?_⟩
 have hT : tabE l = firstN (rowE l) l.length 0 := by
  unfold tabE
  rw [show Nat.blt 4096 l.length = false from Bool.eq_false_iff.2 fun e => by have := (blt_iff _ _).1 e; omega]
  rfl
 have hat : ∀ z v, z < l.length → (∀ i, i < z → rowE l i = 0) → rowE l z = v → v ≠ 0 → v = tabE l := fun z v hz z2 hv hv0 => by
  rw [hT, firstN_at (k := z) hz z2 (by rw [hv]; exact hv0), hv]
 refine ⟨⟨0, ⟨by omega, fun i hi => by omega⟩, rfl⟩, fun z ⟨z1, z2⟩ => ⟨fun hz => ?_, fun hz => ?_⟩⟩
 ·have hin : (0 : Int) ≤ (z : Int) ∧ (z : Int) < (l.length : Int) := ⟨by omega, hz⟩
  refine ⟨hin, hin, hin, hin, fun _ => hin, bsplit_iff.2 ⟨fun c => ?_, fun c => ?_⟩⟩
  ·exact hat z 2 (by omega) z2 (by unfold rowE; rw [c]; rfl) (by decide)
  ·refine ⟨fun hp => ⟨by omega, by omega⟩, fun hp => ?_, fun _ => hin, bsplit_iff.2 ⟨fun c2 => ?_, fun c2 => ⟨⟨by omega, by omega⟩, z + 1, ⟨⟨by omega, fun i hi => ?_⟩, by omega⟩, by omega⟩⟩⟩
   ·have := (blt_iff _ _).1 hp; omega
   ·exact hat z 10 (by omega) z2 (by unfold rowE; rw [c, c2]; rfl) (by decide)
   ·by_cases e : i = z
    ·rw [e]; unfold rowE; rw [c, c2]; rfl
    ·exact z2 i (by omega)
 ·rw [hT, firstN_none fun i hi => z2 i (by omega)]
theorem rcheck_C (l : List Row) : PureCall Tryz.prog [] 20 [slE l] (.i (tabE l)) :=
 pure_of_vc (T := TA6) (an := rcheck_an l) mixed TA6_sound (Eq.mp (by kernel_rfl) (rcheck_vc l))
theorem rcheck_T : PureT Tryz.prog [] 20 rcheck_t := by
 intro xs ps r h hp
 unfold rcheck_t at h
 split at h
 ·skip
  rename_i x_l
  cases h
  obtain ⟨q0, -⟩ := allC hp
  exact weaken (ys := [slE (rowsOf x_l)]) ⟨slE_sound q0, trivial⟩ (rcheck_C (rowsOf x_l))
 ·cases h
end Go.Te
