/- Contracts of small functions. -/
import Derived.Test.YtojonobehnbeiaaGreatDoorSxU
import Derived.Test.YtojonobehnbeiaaGreatDoorProg
import Derived.Test.YtojonobehnbeiaaGreatDoorSxS
namespace Go.Tz
open Go Go.Sx Go.Proofs
set_option maxRecDepth 100000
theorem mixed : Tryz.prog.follows .mixedOrders = true := by kernel_rfl
abbrev T0 : Tb := tb0 []
theorem deep0 (n : Nat) : TbSound Tryz.prog (T0.deep Tryz.prog n) := TbSound.deep mixed tb0_sound n
def allI (len : Nat) (els : Nat → Nat → AV) : Bool := allN (fun i => isI64 (els i 0)) len
theorem allI_avM {f : Bool} {len : Nat} {els : Nat → Nat → AV} (h : allI len els = true) : avM (.xl f 1 len els) (.xl f 1 len fun i _ => .i (AV.int (els i 0))) := by
  refine ⟨fun h => h, rfl, rfl, fun i j hi hj => ?_⟩
  obtain rfl : j = 0 := by omega
  exact avM_of_eq (isI64_eq (allN_true h i hi))
def between_t : List AV → Option (List Cond × AV)
  | [.v (.int .i64 n), .v (.int .i64 a), .v (.int .i64 b)] => some ([], .b (leB a n && leB n b))
  | _ => none
theorem between_vc (n a b : Int) : bndL [AV.v (Value.int .i64 n), AV.v (Value.int .i64 a), AV.v (Value.int .i64 b)] → bsplit (!bsel true (leB a n) || bsel true (leB a n)) (bsplit (!bsel true (leB a n) || bsel true (leB a n)) (bsplit (!leB a n || bsel true (leB a n)) ((bif leB a n then leB n b else false) = (leB a n && leB n b)) False) False) False := by
  intro _
  simp only [bsel_true, vc_own, ge_iff_le, leB_eq, vc_grd]; grind
theorem between_T : PureT Tryz.prog [] 94 between_t := by
  intro xs ps r h _
  unfold between_t at h
  split at h
  · rename_i n a b
    cases h
    exact pure_of_vc mixed tb0_sound (Eq.mp (by kernel_rfl) (between_vc n a b) : vcFn Tryz.prog T0 94 .auto [.i n, .i a, .i b] (.b (leB a n && leB n b)))
  · cases h
def cmpI (a b : Int) : Int := if a < b then -1 else if b < a then 1 else 0
def compare_t : List AV → Option (List Cond × AV)
  | [.v (.int .i64 a), .v (.int .i64 b)] => some ([], .i (cmpI a b))
  | _ => none
theorem compare_vc (a b : Int) :
 let q1 := (IntKind.i64 = .i64 ∧ (0 : Int) = cmpI a b); let q2 := (IntKind.i64 = .i64 ∧ (-1 : Int) = cmpI a b); let q3 := (IntKind.i64 = .i64 ∧ (1 : Int) = cmpI a b); bndL [AV.v (Value.int .i64 a), AV.v (Value.int .i64 b)] → bsplit (a != a) (bsplit (b != b) q1 q2) (bsplit (b != b) q3 (bsplit (ltB a b) q2 (bsplit (ltB b a) q3 q1))) := by
  dsimp only
  intro _
  simp only [bsplit_iff, cmpI, ltB_eq]; grind
theorem compare_T : PureT Tryz.prog [] 78 compare_t := by
  intro xs ps r h _
  unfold compare_t at h
  split at h
  · rename_i a b
    cases h
    exact pure_of_vc mixed (deep0 3) (Eq.mp (by kernel_rfl) (compare_vc a b) : vcFn Tryz.prog (T0.deep Tryz.prog 3) 78 .auto [.i a, .i b] (.i (cmpI a b)))
  · cases h
def ascB (len : Nat) (g : Nat → Int) : Bool := allN (fun i => decide (g i < g (i + 1))) (len - 1)
theorem ascB_iff {len : Nat} {g : Nat → Int} : ascB len g = true ↔ ∀ i, i + 1 < len → g i < g (i + 1) := by
  unfold ascB
  constructor
  · intro h i hi
    exact of_decide_eq_true (allN_true h i (by omega))
  · intro h
    have : ∀ n, (∀ i, i < n → g i < g (i + 1)) → allN (fun i => decide (g i < g (i + 1))) n = true := by
      intro n
      induction n with
      | zero => intro _; rfl
      | succ n ih => intro h; simp only [allN, Bool.and_eq_true]; exact ⟨ih fun i hi => h i (by omega), decide_eq_true (h n (by omega))⟩
    exact this _ fun i hi => h i (by omega)
def asc_an (len : Nat) (g : Nat → Int) : Ann :=
  .two .auto (.two (.two .auto (.one (.loop Nat (fun σ z => [(0, σ.tm 0), (3, .i z)]) (fun _ _ => []) 0 (fun _ z => 1 ≤ z ∧ (z ≤ len ∨ z = 1) ∧ ∀ i, i + 1 < z → g i < g (i + 1)) (fun _ z => len - z) .auto))) .auto)
theorem asc_vc (f : Bool) (len : Nat) (g : Nat → Int) : bndL [AV.xl f 1 len fun (i x : Nat) => AV.v (Value.int .i64 (g i))] → (∃ (z : Nat), ((1 ≤ z ∧ (z ≤ len ∨ z = 1) ∧ ∀ (i : Nat), i + 1 < z → g i < g (i + 1)) ∧ avM (AV.xl f 1 len fun (i x : Nat) => AV.v (Value.int .i64 (g i))) (AV.xl f 1 len fun (i x : Nat) => AV.v (Value.int .i64 (g i))) ∧ IntKind.i64 = .i64 ∧ (1 : Int) = (z : Int)) ∧ True) ∧ ∀ (z : Nat), (1 ≤ z ∧ (z ≤ len ∨ z = 1) ∧ ∀ (i : Nat), i + 1 < z → g i < g (i + 1)) → bsplit (ltB (z : Int) (len : Int)) (bsplit (DB.db ((0 : Int) ≤ (z : Int) ∧ (z : Int) < (len : Int))) (bsplit (DB.db
 (inK .i64 ((z : Int) - (1 : Int)))) (bsplit (DB.db ((0 : Int) ≤ (z : Int) - (1 : Int) ∧ (z : Int) - (1 : Int) < (len : Int))) (bsplit (leB (g (Int.toNat (z : Int))) (g (Int.toNat ((z : Int) - (1 : Int))))) (false = ascB len g) (bsplit (DB.db (inK .i64 ((z : Int) + (1 : Int)))) (∃ (z' : Nat), (((1 ≤ z' ∧ (z' ≤ len ∨ z' = 1) ∧ ∀ (i : Nat), i + 1 < z' → g i < g (i + 1)) ∧ len - z' < len - z) ∧ avM (AV.xl f 1 len fun (i x : Nat) => AV.v (Value.int .i64 (g i))) (AV.xl f 1 len fun (i x : Nat) => AV.v (Value.int .i64 (g i))) ∧ IntKind.i64 = .i64 ∧ (z : Int) + (1 : Int) = (z' : Int)) ∧ True) False))
 False) False) False) (true = ascB len g) := by
  intro hb
  replace hb := hb.1
  refine ⟨⟨1, ⟨⟨by omega, .inr rfl, fun i hi => by omega⟩, avM_refl _, rfl, rfl⟩, trivial⟩, ?_⟩
  rintro z ⟨h1, h2, h3⟩
  simp only [vc_db, vc_lt, vc_le]
  simp only [inK]
  have hz : ((z : Int) - 1).toNat = z - 1 := by omega
  refine ⟨fun hlt => ⟨by omega, by omega, by omega, fun hle => ?_, fun hlt' => ⟨by omega, z + 1, ⟨⟨⟨by omega, by omega, fun i hi => ?_⟩, by omega⟩, avM_refl _, trivial, by omega⟩, trivial⟩⟩, fun hge => ?_⟩
  · rw [Eq.comm, Bool.eq_false_iff]
    intro h
    have := ascB_iff.1 h (z - 1) (by omega)
    rw [hz, Int.toNat_natCast] at hle
    rw [show z - 1 + 1 = z by omega] at this
    omega
  · by_cases e : i + 1 = z
    · rw [hz, Int.toNat_natCast] at hlt'
      rw [e, show i = z - 1 by omega]
      exact hlt'
    · exact h3 i (by omega)
  · rw [Eq.comm, ascB_iff]
    intro i hi
    exact h3 i (by omega)
def asc_t : List AV → Option (List Cond × AV)
  | [.xl _ 1 len els] => some ([.b (allI len els)], .b (ascB len fun i => AV.int (els i 0)))
  | _ => none
theorem asc_T : PureT Tryz.prog [] 75 asc_t := by
  intro xs ps r h hp
  unfold asc_t at h
  split at h
  · rename_i f len els
    cases h
    refine weaken (ys := [_]) ⟨allI_avM (hp _ List.mem_cons_self), trivial⟩ ?_
    exact pure_of_vc mixed tb0_sound (Eq.mp (by kernel_rfl) (asc_vc f len fun i => AV.int (els i 0)) : vcFn Tryz.prog T0 75 (asc_an len fun i => AV.int (els i 0)) [.xl f 1 len fun i _ => .i (AV.int (els i 0))] (.b (ascB len fun i => AV.int (els i 0))))
  · cases h
end Go.Tz

/- Contracts of small functions on pieces and bars. -/
namespace Go.Tz
open Go Go.Sx Go.Proofs
set_option maxRecDepth 100000
def outside_t : List AV → Option (List Cond × AV)
  | [.v (.int .i64 n), .v (.int .i64 m)] => some ([], .b (ltB n 1 || ltB m n))
  | _ => none
theorem outside_vc (n m : Int) : bndL [AV.v (Value.int .i64 n), AV.v (Value.int .i64 m)] → bsplit (!bsel false (ltB n (1 : Int)) || bsel false (ltB n (1 : Int))) (bsplit (!bsel false (ltB n (1 : Int)) || bsel false (ltB n (1 : Int))) (bsplit (!!ltB n (1 : Int) || bsel false (ltB n (1 : Int))) ((bif ltB n (1 : Int) then true else ltB m n) = (ltB n (1 : Int) || ltB m n)) False) False) False := by
  intro _
  simp only [bsel_false, vc_grd, ltB_eq]; grind
theorem outside_T : PureT Tryz.prog [] 73 outside_t := by
  intro xs ps r h _
  unfold outside_t at h
  split at h
  · rename_i n m
    cases h
    exact pure_of_vc mixed tb0_sound (Eq.mp (by kernel_rfl) (outside_vc n m) : vcFn Tryz.prog T0 73 .auto [.i n, .i m] (.b (ltB n 1 || ltB m n)))
  · cases h
def outside3_t : List AV → Option (List Cond × AV)
  | [.v (.int .i64 n), .v (.int .i64 a), .v (.int .i64 b)] => some ([], .b (ltB n a || ltB b n))
  | _ => none
def slV (sz : Nat) : AV → Option (Bool × Nat × (Nat → Nat → AV))
  | .xl f s m e => bif Nat.beq s sz then some (f, m, e) else none
  | .v (.slice none 0 0) => some (true, 0, fun _ _ => .junk)
  | _ => none
theorem slV_avM {sz : Nat} {x : AV} {f : Bool} {m : Nat} {e : Nat → Nat → AV} (h : slV sz x = some (f, m, e)) : avM x (.xl f sz m e) := by
  unfold slV at h
  split at h
  · rename_i f' s m' e'
    cases hb : Nat.beq s sz with
    | true =>
      rw [hb] at h
      obtain rfl := Nat.eq_of_beq_eq_true hb
      cases h
      exact avM_refl _
    | false => rw [hb] at h; cases h
  · cases h
    exact ⟨rfl, rfl⟩
  · cases h
structure CutD where
  w : Int
  d : Int
  l : Int
  f : Bool
  m : Nat
  e : Nat → Nat → AV
def CutD.av (c : CutD) : AV := .agg 4 (listFn [.i c.w, .i c.d, .i c.l, .xl c.f 1 c.m c.e])
def cutV : AV → Option CutD
  | .agg 4 a =>
    match a 0, a 1, a 2, slV 1 (a 3) with
    | .v (.int .i64 w), .v (.int .i64 d), .v (.int .i64 l), some (f, m, e) => some ⟨w, d, l, f, m, e⟩
    | _, _, _, _ => none
  | _ => none
theorem cutV_avM {x : AV} {c : CutD} (h : cutV x = some c) : avM x c.av := by
  unfold cutV at h
  split at h
  · rename_i a
    split at h
    · rename_i w d l f m e h0 h1 h2 h3
      cases h
      refine ⟨rfl, allB_of fun i hi => ?_⟩
      match i, hi with
      | 0, _ => exact avM_of_eq h0
      | 1, _ => exact avM_of_eq h1
      | 2, _ => exact avM_of_eq h2
      | 3, _ => exact slV_avM h3
    · cases h
  · cases h
structure BarD where
  w : Int
  d : Int
  l : Int
  n : Int
  c : Int
  f : Bool
  m : Nat
  e : Nat → Nat → AV
def BarD.av (c : BarD) : AV := .agg 6 (listFn [.i c.w, .i c.d, .i c.l, .i c.n, .i c.c, .xl c.f 2 c.m c.e])
def barV : AV → Option BarD
  | .agg 6 a =>
    match a 0, a 1, a 2, a 3, a 4, slV 2 (a 5) with
    | .v (.int .i64 w), .v (.int .i64 d), .v (.int .i64 l), .v (.int .i64 n), .v (.int .i64 c), some (f, m, e) => some ⟨w, d, l, n, c, f, m, e⟩
    | _, _, _, _, _, _ => none
  | _ => none
theorem barV_avM {x : AV} {c : BarD} (h : barV x = some c) : avM x c.av := by
  unfold barV at h
  split at h
  · rename_i a
    split at h
    · rename_i w d l n c f m e h0 h1 h2 h3 h4 h5
      cases h
      refine ⟨rfl, allB_of fun i hi => ?_⟩
      match i, hi with
      | 0, _ => exact avM_of_eq h0
      | 1, _ => exact avM_of_eq h1
      | 2, _ => exact avM_of_eq h2
      | 3, _ => exact avM_of_eq h3
      | 4, _ => exact avM_of_eq h4
      | 5, _ => exact slV_avM h5
    · cases h
  · cases h
def sectionB (c : CutD) (b : BarD) : Bool := (c.w == b.w) && (c.d == b.d)
def section_t : List AV → Option (List Cond × AV)
  | [x, y] =>
    match cutV x, barV y with
    | some c, some b => some ([], .b (sectionB c b))
    | _, _ => none
  | _ => none
theorem section_vc (c : CutD) (b : BarD) :
 let q1 := (!bsel true (CutD.w c == BarD.w b) || bsel true (CutD.w c == BarD.w b)); bndL [AV.agg 4 fun (i : Nat) => Option.getD [AV.v (Value.int .i64 (CutD.w c)), AV.v (Value.int .i64 (CutD.d c)), AV.v (Value.int .i64 (CutD.l c)), AV.xl (CutD.f c) 1 (CutD.m c) (CutD.e c)][i]? AV.junk, AV.agg 6 fun (i : Nat) => Option.getD [AV.v (Value.int .i64 (BarD.w b)), AV.v (Value.int .i64 (BarD.d b)), AV.v (Value.int .i64 (BarD.l b)), AV.v (Value.int .i64 (BarD.n b)), AV.v (Value.int .i64 (BarD.c b)), AV.xl (BarD.f b) 2 (BarD.m b) (BarD.e b)][i]? AV.junk] → bsplit q1 (bsplit q1 (bsplit q1 (bsplit q1 (bsplit
 (!CutD.w c == BarD.w b || bsel true (CutD.w c == BarD.w b)) ((bif CutD.w c == BarD.w b then CutD.d c == BarD.d b else false) = sectionB c b) False) False) False) False) False := by
  dsimp only
  intro _
  simp only [bsel_true, vc_own, sectionB]
  cases c.w == b.w <;> simp
theorem section_T : PureT Tryz.prog [] 80 section_t := by
  intro xs ps r h _
  unfold section_t at h
  split at h
  · split at h
    · rename_i c b h1 h2
      cases h
      exact weaken (ys := [_, _]) ⟨cutV_avM h1, barV_avM h2, trivial⟩ (pure_of_vc mixed tb0_sound (Eq.mp (by kernel_rfl) (section_vc c b) : vcFn Tryz.prog T0 80 .auto [c.av, b.av] (.b (sectionB c b))))
    · cases h
  · cases h
def orF (g : Nat → Int) : Nat → Nat → Int
  | 0, _ => 0
  | n + 1, i => bif g i == 0 then orF g n (i + 1) else g i
theorem orF_skip {g : Nat → Int} : ∀ {k n : Nat}, k ≤ n → (∀ i, i < k → g i = 0) → orF g n 0 = orF g (n - k) k
  | 0, n, _, _ => by simp
  | k + 1, n, hk, h => by
    rw [orF_skip (k := k) (by omega) fun i hi => h i (by omega)]
    obtain ⟨m, hm⟩ : ∃ m, n - k = m + 1 := ⟨n - k - 1, by omega⟩
    rw [hm, orF, h k (by omega)]
    simp only [beq_self_eq_true, cond_true]
    congr 1
    omega
def or_an (len : Nat) (g : Nat → Int) : Ann :=
  .two .auto (.two .auto (.two (.two .auto (.one (.loop Nat (fun σ z => [(0, σ.tm 0), (3, .i 0), (6, σ.tm 0), (7, .i len), (8, .i z)]) (fun _ _ => []) 0 (fun _ z => z ≤ len ∧ ∀ i, i < z → g i = 0) (fun _ z => len - z) .auto))) .auto))
theorem or_vc (f : Bool) (len : Nat) (g : Nat → Int) :
 let q1 := (AV.xl f 1 len fun (i x : Nat) => AV.v (Value.int .i64 (g i))); let q2 := (IntKind.i64 = .i64 ∧ (0 : Int) = (0 : Int)); let q3 := (IntKind.i64 = .i64 ∧ (len : Int) = (len : Int)); bndL [AV.xl f 1 len fun (i x : Nat) => AV.v (Value.int .i64 (g i))] → (∃ (z : Nat), ((z ≤ len ∧ ∀ (i : Nat), i < z → g i = (0 : Int)) ∧ avM q1 q1 ∧ q2 ∧ avM q1 q1 ∧ q3 ∧ IntKind.i64 = .i64 ∧ (0 : Int) = (z : Int)) ∧ True) ∧ ∀ (z : Nat), (z ≤ len ∧ ∀ (i : Nat), i < z → g i = (0 : Int)) → bsplit (ltB (z : Int) (len : Int)) (bsplit (DB.db ((0 : Int) ≤ (z : Int) ∧ (z : Int) < (len : Int))) (bsplit (g (Int.toNat
 (z : Int)) != (0 : Int)) (IntKind.i64 = .i64 ∧ g (Int.toNat (z : Int)) = orF g len 0) (bsplit (DB.db (inK .i64 ((z : Int) + (1 : Int)))) (∃ (z' : Nat), (((z' ≤ len ∧ ∀ (i : Nat), i < z' → g i = (0 : Int)) ∧ len - z' < len - z) ∧ avM q1 q1 ∧ q2 ∧ avM q1 q1 ∧ q3 ∧ IntKind.i64 = .i64 ∧ (z : Int) + (1 : Int) = (z' : Int)) ∧ True) False)) False) (IntKind.i64 = .i64 ∧ (0 : Int) = orF g len 0) := by
  dsimp only
  intro hb
  replace hb := hb.1
  refine ⟨⟨0, ⟨⟨by omega, fun i hi => by omega⟩, avM_refl _, ⟨rfl, rfl⟩, avM_refl _, ⟨rfl, rfl⟩, rfl, rfl⟩, trivial⟩, ?_⟩
  rintro z ⟨h1, h2⟩
  simp only [vc_db, vc_lt, vc_ne]
  simp only [inK, Int.toNat_natCast]
  have hs := orF_skip h1 h2
  refine ⟨fun hlt => ⟨⟨by omega, by omega⟩, fun hz => ⟨trivial, ?_⟩, fun hz => ⟨by omega, z + 1, ⟨⟨⟨by omega, fun i hi => ?_⟩, by omega⟩, avM_refl _, ⟨trivial, trivial⟩, avM_refl _, ⟨trivial, trivial⟩, trivial, by omega⟩, trivial⟩⟩, fun hge => ⟨trivial, ?_⟩⟩
  · obtain ⟨m, hm⟩ : ∃ m, len - z = m + 1 := ⟨len - z - 1, by omega⟩
    rw [hs, hm, orF, show (g z == 0) = false from beq_eq_false_iff_ne.2 hz]
    rfl
  · by_cases e : i = z
    · rw [e]; exact hz
    · exact h2 i (by omega)
  · rw [hs, show len - z = 0 by omega]
    rfl
def or_t : List AV → Option (List Cond × AV)
  | [.xl _ 1 len els] => some ([.b (allI len els)], .i (orF (fun i => AV.int (els i 0)) len 0))
  | _ => none
theorem or_T : PureT Tryz.prog [] 42 or_t := by
  intro xs ps r h hp
  unfold or_t at h
  split at h
  · rename_i f len els
    cases h
    refine weaken (ys := [_]) ⟨allI_avM (hp _ List.mem_cons_self), trivial⟩ ?_
    exact pure_of_vc mixed tb0_sound (Eq.mp (by kernel_rfl) (or_vc f len fun i => AV.int (els i 0)) : vcFn Tryz.prog T0 42 (or_an len fun i => AV.int (els i 0)) [.xl f 1 len fun i _ => .i (AV.int (els i 0))] (.i (orF (fun i => AV.int (els i 0)) len 0)))
  · cases h
def or4 (a b c d : Int) : Int := if a ≠ 0 then a else if b ≠ 0 then b else if c ≠ 0 then c else d
def orderI (a b : CutD) : Int := or4 (cmpI a.w b.w) (cmpI a.d b.d) (cmpI b.l a.l) (cmpI (AV.int (a.e 0 0)) (AV.int (b.e 0 0)))
def order_t : List AV → Option (List Cond × AV)
  | [x, y] =>
    match cutV x, cutV y with
    | some a, some b =>
      match a.e 0 0, b.e 0 0 with
      | .v (.int .i64 _), .v (.int .i64 _) => some ([.b (Nat.blt 0 a.m), .b (Nat.blt 0 b.m)], .i (orderI a b))
      | _, _ => none
    | _, _ => none
  | _ => none
def Tor : Tb := (T0.plus 78 compare_t).plus 42 or_t
theorem Tor_sound : TbSound Tryz.prog Tor := TbSound.plus (TbSound.plus tb0_sound compare_T) or_T
def hd (n : Int) (e : Nat → Nat → AV) : Nat → Nat → AV
  | 0, _ => .i n
  | i + 1, j => e (i + 1) j
def CutD.hd (c : CutD) (n : Int) : CutD := { c with e := Tz.hd n c.e }
theorem hd_eq {e : Nat → Nat → AV} {n : Int} (h : e 0 0 = .i n) (i j : Nat) (hj : j < 1) : e i j = Tz.hd n e i j := by
  obtain rfl : j = 0 := by omega
  cases i with
  | zero => exact h
  | succ i => rfl
theorem cut_hd {c : CutD} {n : Int} (h : c.e 0 0 = .i n) : avM c.av (c.hd n).av := by
  refine ⟨rfl, allB_of fun i hi => ?_⟩
  match i, hi with
  | 0, _ => exact avM_refl _
  | 1, _ => exact avM_refl _
  | 2, _ => exact avM_refl _
  | 3, _ => exact ⟨fun h => h, rfl, rfl, fun i j hi hj => avM_of_eq (hd_eq h i j hj)⟩
theorem order_vc (a b : CutD) (x y : Int) (ha : 0 < a.m) (hb : 0 < b.m) : bndL [AV.agg 4 fun (i : Nat) => Option.getD [AV.v (Value.int .i64 (CutD.w (CutD.hd a x))), AV.v (Value.int .i64 (CutD.d (CutD.hd a x))), AV.v (Value.int .i64 (CutD.l (CutD.hd a x))), AV.xl (CutD.f (CutD.hd a x)) 1 (CutD.m (CutD.hd a x)) (CutD.e (CutD.hd a x))][i]? AV.junk, AV.agg 4 fun (i : Nat) => Option.getD [AV.v (Value.int .i64 (CutD.w (CutD.hd b y))), AV.v (Value.int .i64 (CutD.d (CutD.hd b y))), AV.v (Value.int .i64 (CutD.l (CutD.hd b y))), AV.xl (CutD.f (CutD.hd b y)) 1 (CutD.m (CutD.hd b y)) (CutD.e (CutD.hd b
 y))][i]? AV.junk] → bsplit (DB.db ((0 : Int) ≤ (0 : Int) ∧ (0 : Int) < (↑(CutD.m (CutD.hd a x)) : Int))) (bsplit (DB.db ((0 : Int) ≤ (0 : Int) ∧ (0 : Int) < (↑(CutD.m (CutD.hd b y)) : Int))) (IntKind.i64 = .i64 ∧ orF (fun (i : Nat) => AV.int (Sx.rowAt [fun (x_1 : Nat) => AV.v (Value.int .i64 (cmpI (CutD.w (CutD.hd a x)) (CutD.w (CutD.hd b y)))), fun (x_1 : Nat) => AV.v (Value.int .i64 (cmpI (CutD.d (CutD.hd a x)) (CutD.d (CutD.hd b y)))), fun (x_1 : Nat) => AV.v (Value.int .i64 (cmpI (CutD.l (CutD.hd b y)) (CutD.l (CutD.hd a x)))), fun (x_1 : Nat) => AV.v (Value.int .i64 (cmpI x y))] i 0)) 4 0
 = or4 (cmpI (CutD.w a) (CutD.w b)) (cmpI (CutD.d a) (CutD.d b)) (cmpI (CutD.l b) (CutD.l a)) (cmpI x y)) False) False := by
  intro _
  simp only [vc_db]
  refine ⟨⟨by omega, Int.ofNat_lt.2 ha⟩, ⟨by omega, Int.ofNat_lt.2 hb⟩, ?_⟩
  refine ⟨by trivial, ?_⟩
  show (bif cmpI a.w b.w == 0 then bif cmpI a.d b.d == 0 then bif cmpI b.l a.l == 0 then bif cmpI x y == 0 then 0 else cmpI x y else cmpI b.l a.l else cmpI a.d b.d else cmpI a.w b.w) = _
  unfold or4
  grind
theorem order_T : PureT Tryz.prog [] 38 order_t := by
  intro xs ps r h hp
  unfold order_t at h
  split at h
  · split at h
    · rename_i a b h1 h2
      split at h
      · rename_i x y hx hy
        cases h
        have ha : 0 < a.m := Nat.le_of_ble_eq_true (hp _ List.mem_cons_self)
        have hb : 0 < b.m := Nat.le_of_ble_eq_true (hp _ (List.mem_cons_of_mem _ List.mem_cons_self))
        refine weaken (ys := [_, _]) ⟨cutV_avM h1, cutV_avM h2, trivial⟩ (weaken (ys := [_, _]) ⟨cut_hd hx, cut_hd hy, trivial⟩ ?_)
        have e : orderI a b = or4 (cmpI a.w b.w) (cmpI a.d b.d) (cmpI b.l a.l) (cmpI x y) := by
          unfold orderI
          rw [hx, hy]
          rfl
        rw [e]
        exact pure_of_vc mixed Tor_sound (Eq.mp (by kernel_rfl) (order_vc a b x y ha hb) : vcFn Tryz.prog Tor 38 .auto [(a.hd x).av, (b.hd y).av] (.i (or4 (cmpI a.w b.w) (cmpI a.d b.d) (cmpI b.l a.l) (cmpI x y))))
      · cases h
    · cases h
  · cases h
end Go.Tz

/- slices.Clone. -/
namespace Go.Tz
open Go Go.Sx Go.Proofs
set_option maxRecDepth 100000
def clone_t (ty sz bytes : Nat) : List AV → Option (List Cond × TypeId × Nat × Nat × (Nat → Nat → AV))
  | [x] =>
    match slV sz x with
    | some (_, m, e) => some ([.d (m * bytes ≤ 140737488355328)], ty, sz, m, e)
    | none => none
  | _ => none
theorem cloneI_vc (f : Bool) (m : Nat) (e : Nat → Nat → AV) (hm : m * 8 ≤ 140737488355328) :
 let q1 := (3 = (3 : TypeId) ∧ 1 = 1 ∧ 0 + m = m ∧ ∀ (i j : Nat), i < m → j < 1 → avM (e (i - 0) j) (e i j)); bndL [AV.xl f 1 m e] → bsplit (Nat.beq m 0) (m = 0 ∧ bsplit (DB.db ((0 + m) * 8 ≤ 140737488355328)) q1 False) (bsplit (DB.db ((0 + m) * 8 ≤ 140737488355328)) q1 False) := by
  dsimp only
  intro _
  have hb : (0 + m) * 8 ≤ 140737488355328 := by omega
  have key : bsplit (DB.db ((0 + m) * 8 ≤ 140737488355328)) (3 = 3 ∧ 1 = 1 ∧ 0 + m = m ∧ ∀ (i j : Nat), i < m → j < 1 → avM (e (i - 0) j) (e i j)) False :=
    vc_db.2 ⟨hb, rfl, rfl, by omega, fun i j _ _ => avM_refl _⟩
  exact bsplit_iff.2 ⟨fun h => ⟨Nat.eq_of_beq_eq_true h, key⟩, fun _ => key⟩
theorem cloneI_T : FreshT Tryz.prog [] 70 (clone_t 3 1 8) := by
  intro xs ps ty sz len els h hp
  unfold clone_t at h
  split at h
  · split at h
    · rename_i f m e hx
      cases h
      exact weakenF (ys := [_]) ⟨slV_avM hx, trivial⟩ (fresh_of_vc mixed tb0_sound (Eq.mp (by kernel_rfl) (cloneI_vc f len els (DB.iff.1 (hp _ List.mem_cons_self))) : vcFresh Tryz.prog T0 70 .auto [.xl f 1 len els] 3 1 len els))
    · cases h
  · cases h
theorem cloneG_vc (f : Bool) (m : Nat) (e : Nat → Nat → AV) (hm : m * 16 ≤ 140737488355328) :
 let q1 := (DB.db ((0 + m) * 16 ≤ 140737488355328)); let q2 := (107 = (107 : TypeId) ∧ 2 = 2 ∧ 0 + m = m ∧ ∀ (i j : Nat), i < m → j < 2 → avM (e (i - 0) j) (e i j)); bndL [AV.xl f 2 m e] → bsplit (Nat.beq m 0) (m = 0 ∧ bsplit q1 q2 False) (bsplit q1 q2 False) := by
  dsimp only
  intro _
  have hb : (0 + m) * 16 ≤ 140737488355328 := by omega
  have key : bsplit (DB.db ((0 + m) * 16 ≤ 140737488355328)) (107 = 107 ∧ 2 = 2 ∧ 0 + m = m ∧ ∀ (i j : Nat), i < m → j < 2 → avM (e (i - 0) j) (e i j)) False :=
    vc_db.2 ⟨hb, rfl, rfl, by omega, fun i j _ _ => avM_refl _⟩
  exact bsplit_iff.2 ⟨fun h => ⟨Nat.eq_of_beq_eq_true h, key⟩, fun _ => key⟩
theorem cloneG_T : FreshT Tryz.prog [] 123 (clone_t 107 2 16) := by
  intro xs ps ty sz len els h hp
  unfold clone_t at h
  split at h
  · split at h
    · rename_i f m e hx
      cases h
      exact weakenF (ys := [_]) ⟨slV_avM hx, trivial⟩ (fresh_of_vc mixed tb0_sound (Eq.mp (by kernel_rfl) (cloneG_vc f len els (DB.iff.1 (hp _ List.mem_cons_self))) : vcFresh Tryz.prog T0 123 .auto [.xl f 2 len els] 107 2 len els))
    · cases h
  · cases h
def cloneP_t (sz bytes : Nat) : List AV → Option (List Cond × AV)
  | [x] =>
    match slV sz x with
    | some (_, m, e) => some ([.d (m * bytes ≤ 140737488355328)], .xl false sz m e)
    | none => none
  | _ => none
theorem cloneP_vc (f : Bool) (m : Nat) (e : Nat → Nat → AV) (hm : m * 8 ≤ 140737488355328) : bndL [AV.xl f 1 m e] → bsplit (Nat.beq m 0) (AvW (AV.v (Value.slice (Non Addr) 0 0)) (AV.xl false 1 m e) ∧ bsplit (DB.db ((0 + m) * 8 ≤ 140737488355328)) (AvW (AV.xl false 1 (0 + m) fun i j => e (0 + i - 0) j) (AV.xl false 1 m e)) False) (bsplit (DB.db ((0 + m) * 8 ≤ 140737488355328)) (AvW (AV.xl false 1 (0 + m) fun i j => e (0 + i - 0) j) (AV.xl false 1 m e)) False) := by
  intro _
  have hb : (0 + m) * 8 ≤ 140737488355328 := by omega
  have k1 : AvW (AV.xl false 1 (0 + m) fun i j => e (0 + i - 0) j) (AV.xl false 1 m e) := ⟨fun h => h, rfl, by omega, fun i j _ _ => avM_of_eq (by show e (0 + i - 0) j = e i j; rw [show 0 + i - 0 = i by omega])⟩
  have key : bsplit (DB.db ((0 + m) * 8 ≤ 140737488355328)) (AvW (AV.xl false 1 (0 + m) fun i j => e (0 + i - 0) j) (AV.xl false 1 m e)) False := vc_db.2 ⟨hb, k1⟩
  exact bsplit_iff.2 ⟨fun h => ⟨⟨rfl, Nat.eq_of_beq_eq_true h⟩, key⟩, fun _ => key⟩
theorem cloneP_T : PureT Tryz.prog [] 70 (cloneP_t 1 8) := by
  intro xs ps r h hp
  unfold cloneP_t at h
  split at h
  · split at h
    · rename_i f m e hx
      cases h
      exact weaken (ys := [_]) ⟨slV_avM hx, trivial⟩ (pure_of_vcW mixed tb0_sound (Eq.mp (by kernel_rfl) (cloneP_vc f m e (DB.iff.1 (hp _ List.mem_cons_self))) : vcFnW Tryz.prog T0 70 .auto [.xl f 1 m e] (.xl false 1 m e)))
    · cases h
  · cases h
end Go.Tz
