/- Contracts of small functions on pieces and bars. -/
import Derived.Test.YtojonobehnbeiaaDoorTdA
namespace Go.Td
open Go Go.Sx Go.Proofs
set_option maxRecDepth 100000

/-- cutlist.outside -/
def outside_t : List AV → Option (List Cond × AV)
  | [.v (.int .i64 n), .v (.int .i64 m)] => some ([], .b (ltB n 1 || ltB m n))
  | _ => none
theorem outside_vc (n m : Int) : bndL [AV.v (Value.int IntKind.i64 n), AV.v (Value.int IntKind.i64 m)] →
  bsplit (!bsel false (ltB n (1 : Int)) || bsel false (ltB n (1 : Int)))
    (bsplit (!bsel false (ltB n (1 : Int)) || bsel false (ltB n (1 : Int)))
      (bsplit (!!ltB n (1 : Int) || bsel false (ltB n (1 : Int)))
        ((bif ltB n (1 : Int) then true else ltB m n) = (ltB n (1 : Int) || ltB m n)) False)
      False)
    False := by
  intro _
  simp only [bsel_false, vc_grd, ltB_eq]; grind
theorem outside_T : PureT Tryd.prog [] 52 outside_t := by
  intro xs ps r h _
  unfold outside_t at h
  split at h
  · rename_i n m
    cases h
    exact pure_of_vc mixed tb0_sound (Eq.mp (by kernel_rfl) (outside_vc n m) : vcFn Tryd.prog T0 52 .auto [.i n, .i m] (.b (ltB n 1 || ltB m n)))
  · cases h

/-- kingpostref43.outside -/
def outside3_t : List AV → Option (List Cond × AV)
  | [.v (.int .i64 n), .v (.int .i64 a), .v (.int .i64 b)] => some ([], .b (ltB n a || ltB b n))
  | _ => none
/-! ### Pieces and bars -/

/-- A slice of elements of so many cells. -/
def slV (sz : Nat) : AV → Option (Bool × Nat × (Nat → Nat → AV))
  | .xl f s m e => bif Nat.beq s sz then some (f, m, e) else none
  | .v (.slice none 0 0) => some (true, 0, fun _ _ => .junk)
  | _ => none
theorem slV_avM {sz : Nat} {x : AV} {f : Bool} {m : Nat} {e : Nat → Nat → AV} (h : slV sz x = some (f, m, e)) : avM x (.xl f sz m e) := by
  unfold slV at h
  split at h
  · rename_i f' s m' e'
    cases hb : Nat.beq s sz with
    | true =>
      rw [hb] at h
      obtain rfl := Nat.eq_of_beq_eq_true hb
      cases h
      exact avM_refl _
    | false => rw [hb] at h; cases h
  · cases h
    exact ⟨rfl, rfl⟩
  · cases h

structure CutD where
  w : Int
  d : Int
  l : Int
  f : Bool
  m : Nat
  e : Nat → Nat → AV
def CutD.av (c : CutD) : AV := .agg 4 (listFn [.i c.w, .i c.d, .i c.l, .xl c.f 1 c.m c.e])
def cutV : AV → Option CutD
  | .agg 4 a =>
    match a 0, a 1, a 2, slV 1 (a 3) with
    | .v (.int .i64 w), .v (.int .i64 d), .v (.int .i64 l), some (f, m, e) => some ⟨w, d, l, f, m, e⟩
    | _, _, _, _ => none
  | _ => none
theorem cutV_avM {x : AV} {c : CutD} (h : cutV x = some c) : avM x c.av := by
  unfold cutV at h
  split at h
  · rename_i a
    split at h
    · rename_i w d l f m e h0 h1 h2 h3
      cases h
      refine ⟨rfl, allB_of fun i hi => ?_⟩
      match i, hi with
      | 0, _ => exact avM_of_eq h0
      | 1, _ => exact avM_of_eq h1
      | 2, _ => exact avM_of_eq h2
      | 3, _ => exact slV_avM h3
    · cases h
  · cases h

structure BarD where
  w : Int
  d : Int
  l : Int
  n : Int
  c : Int
  f : Bool
  m : Nat
  e : Nat → Nat → AV
def BarD.av (c : BarD) : AV := .agg 6 (listFn [.i c.w, .i c.d, .i c.l, .i c.n, .i c.c, .xl c.f 2 c.m c.e])
def barV : AV → Option BarD
  | .agg 6 a =>
    match a 0, a 1, a 2, a 3, a 4, slV 2 (a 5) with
    | .v (.int .i64 w), .v (.int .i64 d), .v (.int .i64 l), .v (.int .i64 n), .v (.int .i64 c), some (f, m, e) => some ⟨w, d, l, n, c, f, m, e⟩
    | _, _, _, _, _, _ => none
  | _ => none
theorem barV_avM {x : AV} {c : BarD} (h : barV x = some c) : avM x c.av := by
  unfold barV at h
  split at h
  · rename_i a
    split at h
    · rename_i w d l n c f m e h0 h1 h2 h3 h4 h5
      cases h
      refine ⟨rfl, allB_of fun i hi => ?_⟩
      match i, hi with
      | 0, _ => exact avM_of_eq h0
      | 1, _ => exact avM_of_eq h1
      | 2, _ => exact avM_of_eq h2
      | 3, _ => exact avM_of_eq h3
      | 4, _ => exact avM_of_eq h4
      | 5, _ => exact slV_avM h5
    · cases h
  · cases h

/-- nest.section -/
def sectionB (c : CutD) (b : BarD) : Bool := (c.w == b.w) && (c.d == b.d)
def section_t : List AV → Option (List Cond × AV)
  | [x, y] =>
    match cutV x, barV y with
    | some c, some b => some ([], .b (sectionB c b))
    | _, _ => none
  | _ => none
theorem section_vc (c : CutD) (b : BarD) : bndL
    [AV.agg (4 : Nat) fun (i : Nat) =>
        Option.getD
          [AV.v (Value.int IntKind.i64 (CutD.w c)), AV.v (Value.int IntKind.i64 (CutD.d c)),
              AV.v (Value.int IntKind.i64 (CutD.l c)), AV.xl (CutD.f c) (1 : Nat) (CutD.m c) (CutD.e c)][i]?
          AV.junk,
      AV.agg (6 : Nat) fun (i : Nat) =>
        Option.getD
          [AV.v (Value.int IntKind.i64 (BarD.w b)), AV.v (Value.int IntKind.i64 (BarD.d b)),
              AV.v (Value.int IntKind.i64 (BarD.l b)), AV.v (Value.int IntKind.i64 (BarD.n b)),
              AV.v (Value.int IntKind.i64 (BarD.c b)), AV.xl (BarD.f b) (2 : Nat) (BarD.m b) (BarD.e b)][i]?
          AV.junk] →
  bsplit (!bsel true (CutD.w c == BarD.w b) || bsel true (CutD.w c == BarD.w b))
    (bsplit (!bsel true (CutD.w c == BarD.w b) || bsel true (CutD.w c == BarD.w b))
      (bsplit (!bsel true (CutD.w c == BarD.w b) || bsel true (CutD.w c == BarD.w b))
        (bsplit (!bsel true (CutD.w c == BarD.w b) || bsel true (CutD.w c == BarD.w b))
          (bsplit (!CutD.w c == BarD.w b || bsel true (CutD.w c == BarD.w b))
            ((bif CutD.w c == BarD.w b then CutD.d c == BarD.d b else false) = sectionB c b) False)
          False)
        False)
      False)
    False := by
  intro _
  simp only [bsel_true, vc_own, sectionB]
  cases c.w == b.w <;> simp
theorem section_T : PureT Tryd.prog [] 45 section_t := by
  intro xs ps r h _
  unfold section_t at h
  split at h
  · split at h
    · rename_i c b h1 h2
      cases h
      exact weaken (ys := [_, _]) ⟨cutV_avM h1, barV_avM h2, trivial⟩ (pure_of_vc mixed tb0_sound (Eq.mp (by kernel_rfl) (section_vc c b) : vcFn Tryd.prog T0 45 .auto [c.av, b.av] (.b (sectionB c b))))
    · cases h
  · cases h
/-- cmp.Or -/
def orF (g : Nat → Int) : Nat → Nat → Int
  | 0, _ => 0
  | n + 1, i => bif g i == 0 then orF g n (i + 1) else g i
theorem orF_skip {g : Nat → Int} : ∀ {k n : Nat}, k ≤ n → (∀ i, i < k → g i = 0) → orF g n 0 = orF g (n - k) k
  | 0, n, _, _ => by simp
  | k + 1, n, hk, h => by
    rw [orF_skip (k := k) (by omega) fun i hi => h i (by omega)]
    obtain ⟨m, hm⟩ : ∃ m, n - k = m + 1 := ⟨n - k - 1, by omega⟩
    rw [hm, orF, h k (by omega)]
    simp only [beq_self_eq_true, cond_true]
    congr 1
    omega
def or_an (len : Nat) (g : Nat → Int) : Ann :=
  .two .auto (.two .auto (.two (.two .auto (.one (.loop Nat (fun σ z => [(0, σ.tm 0), (3, .i 0), (6, σ.tm 0), (7, .i len), (8, .i z)]) (fun _ _ => []) 0 (fun _ z => z ≤ len ∧ ∀ i, i < z → g i = 0) (fun _ z => len - z) .auto))) .auto))
theorem or_vc (f : Bool) (len : Nat) (g : Nat → Int) : bndL [AV.xl f (1 : Nat) len fun (i x : Nat) => AV.v (Value.int IntKind.i64 (g i))] →
  (∃ (z : Nat),
      ((z ≤ len ∧ ∀ (i : Nat), i < z → g i = (0 : Int)) ∧
          avM (AV.xl f (1 : Nat) len fun (i x : Nat) => AV.v (Value.int IntKind.i64 (g i)))
              (AV.xl f (1 : Nat) len fun (i x : Nat) => AV.v (Value.int IntKind.i64 (g i))) ∧
            (IntKind.i64 = IntKind.i64 ∧ (0 : Int) = (0 : Int)) ∧
              avM (AV.xl f (1 : Nat) len fun (i x : Nat) => AV.v (Value.int IntKind.i64 (g i)))
                  (AV.xl f (1 : Nat) len fun (i x : Nat) => AV.v (Value.int IntKind.i64 (g i))) ∧
                (IntKind.i64 = IntKind.i64 ∧ (↑len : Int) = (↑len : Int)) ∧
                  IntKind.i64 = IntKind.i64 ∧ (0 : Int) = (↑z : Int)) ∧
        True) ∧
    ∀ (z : Nat),
      (z ≤ len ∧ ∀ (i : Nat), i < z → g i = (0 : Int)) →
        bsplit (ltB (↑z : Int) (↑len : Int))
          (bsplit (DB.db ((0 : Int) ≤ (↑z : Int) ∧ (↑z : Int) < (↑len : Int)))
            (bsplit (g (Int.toNat (↑z : Int)) != (0 : Int))
              (IntKind.i64 = IntKind.i64 ∧ g (Int.toNat (↑z : Int)) = orF g len (0 : Nat))
              (bsplit (DB.db (inK IntKind.i64 ((↑z : Int) + (1 : Int))))
                (∃ (z' : Nat),
                  (((z' ≤ len ∧ ∀ (i : Nat), i < z' → g i = (0 : Int)) ∧ len - z' < len - z) ∧
                      avM (AV.xl f (1 : Nat) len fun (i x : Nat) => AV.v (Value.int IntKind.i64 (g i)))
                          (AV.xl f (1 : Nat) len fun (i x : Nat) => AV.v (Value.int IntKind.i64 (g i))) ∧
                        (IntKind.i64 = IntKind.i64 ∧ (0 : Int) = (0 : Int)) ∧
                          avM (AV.xl f (1 : Nat) len fun (i x : Nat) => AV.v (Value.int IntKind.i64 (g i)))
                              (AV.xl f (1 : Nat) len fun (i x : Nat) => AV.v (Value.int IntKind.i64 (g i))) ∧
                            (IntKind.i64 = IntKind.i64 ∧ (↑len : Int) = (↑len : Int)) ∧
                              IntKind.i64 = IntKind.i64 ∧ (↑z : Int) + (1 : Int) = (↑z' : Int)) ∧
                    True)
                False))
            False)
          (IntKind.i64 = IntKind.i64 ∧ (0 : Int) = orF g len (0 : Nat)) := by
  intro hb
  replace hb := hb.1
  refine ⟨⟨0, ⟨⟨by omega, fun i hi => by omega⟩, avM_refl _, ⟨rfl, rfl⟩, avM_refl _, ⟨rfl, rfl⟩, rfl, rfl⟩, trivial⟩, ?_⟩
  rintro z ⟨h1, h2⟩
  simp only [vc_db, vc_lt, vc_ne]
  simp only [inK, Int.toNat_natCast]
  have hs := orF_skip h1 h2
  refine ⟨fun hlt => ⟨⟨by omega, by omega⟩, fun hz => ⟨trivial, ?_⟩, fun hz => ⟨by omega, z + 1, ⟨⟨⟨by omega, fun i hi => ?_⟩, by omega⟩, avM_refl _, ⟨trivial, trivial⟩, avM_refl _, ⟨trivial, trivial⟩, trivial, by omega⟩, trivial⟩⟩, fun hge => ⟨trivial, ?_⟩⟩
  · obtain ⟨m, hm⟩ : ∃ m, len - z = m + 1 := ⟨len - z - 1, by omega⟩
    rw [hs, hm, orF, show (g z == 0) = false from beq_eq_false_iff_ne.2 hz]
    rfl
  · by_cases e : i = z
    · rw [e]; exact hz
    · exact h2 i (by omega)
  · rw [hs, show len - z = 0 by omega]
    rfl
def or_t : List AV → Option (List Cond × AV)
  | [.xl _ 1 len els] => some ([.b (allI len els)], .i (orF (fun i => AV.int (els i 0)) len 0))
  | _ => none
theorem or_T : PureT Tryd.prog [] 30 or_t := by
  intro xs ps r h hp
  unfold or_t at h
  split at h
  · rename_i f len els
    cases h
    refine weaken (ys := [_]) ⟨allI_avM (hp _ List.mem_cons_self), trivial⟩ ?_
    exact pure_of_vc mixed tb0_sound (Eq.mp (by kernel_rfl) (or_vc f len fun i => AV.int (els i 0)) : vcFn Tryd.prog T0 30 (or_an len fun i => AV.int (els i 0)) [.xl f 1 len fun i _ => .i (AV.int (els i 0))] (.i (orF (fun i => AV.int (els i 0)) len 0)))
  · cases h

/-- cutlist.order -/
def or4 (a b c d : Int) : Int := if a ≠ 0 then a else if b ≠ 0 then b else if c ≠ 0 then c else d
def orderI (a b : CutD) : Int := or4 (cmpI a.w b.w) (cmpI a.d b.d) (cmpI b.l a.l) (cmpI (AV.int (a.e 0 0)) (AV.int (b.e 0 0)))
def order_t : List AV → Option (List Cond × AV)
  | [x, y] =>
    match cutV x, cutV y with
    | some a, some b =>
      match a.e 0 0, b.e 0 0 with
      | .v (.int .i64 _), .v (.int .i64 _) => some ([.b (Nat.blt 0 a.m), .b (Nat.blt 0 b.m)], .i (orderI a b))
      | _, _ => none
    | _, _ => none
  | _ => none
def Tor : Tb := (T0.plus 65 compare_t).plus 30 or_t
theorem Tor_sound : TbSound Tryd.prog Tor := TbSound.plus (TbSound.plus tb0_sound compare_T) or_T
def hd (n : Int) (e : Nat → Nat → AV) : Nat → Nat → AV
  | 0, _ => .i n
  | i + 1, j => e (i + 1) j
def CutD.hd (c : CutD) (n : Int) : CutD := { c with e := Td.hd n c.e }
theorem hd_eq {e : Nat → Nat → AV} {n : Int} (h : e 0 0 = .i n) (i j : Nat) (hj : j < 1) : e i j = Td.hd n e i j := by
  obtain rfl : j = 0 := by omega
  cases i with
  | zero => exact h
  | succ i => rfl
theorem cut_hd {c : CutD} {n : Int} (h : c.e 0 0 = .i n) : avM c.av (c.hd n).av := by
  refine ⟨rfl, allB_of fun i hi => ?_⟩
  match i, hi with
  | 0, _ => exact avM_refl _
  | 1, _ => exact avM_refl _
  | 2, _ => exact avM_refl _
  | 3, _ => exact ⟨fun h => h, rfl, rfl, fun i j hi hj => avM_of_eq (hd_eq h i j hj)⟩
theorem order_vc (a b : CutD) (x y : Int) (ha : 0 < a.m) (hb : 0 < b.m) : bndL
    [AV.agg (4 : Nat) fun (i : Nat) =>
        Option.getD
          [AV.v (Value.int IntKind.i64 (CutD.w (CutD.hd a x))), AV.v (Value.int IntKind.i64 (CutD.d (CutD.hd a x))),
              AV.v (Value.int IntKind.i64 (CutD.l (CutD.hd a x))),
              AV.xl (CutD.f (CutD.hd a x)) (1 : Nat) (CutD.m (CutD.hd a x)) (CutD.e (CutD.hd a x))][i]?
          AV.junk,
      AV.agg (4 : Nat) fun (i : Nat) =>
        Option.getD
          [AV.v (Value.int IntKind.i64 (CutD.w (CutD.hd b y))), AV.v (Value.int IntKind.i64 (CutD.d (CutD.hd b y))),
              AV.v (Value.int IntKind.i64 (CutD.l (CutD.hd b y))),
              AV.xl (CutD.f (CutD.hd b y)) (1 : Nat) (CutD.m (CutD.hd b y)) (CutD.e (CutD.hd b y))][i]?
          AV.junk] →
  bsplit (DB.db ((0 : Int) ≤ (0 : Int) ∧ (0 : Int) < (↑(CutD.m (CutD.hd a x)) : Int)))
    (bsplit (DB.db ((0 : Int) ≤ (0 : Int) ∧ (0 : Int) < (↑(CutD.m (CutD.hd b y)) : Int)))
      (IntKind.i64 = IntKind.i64 ∧
        orF
            (fun (i : Nat) =>
              AV.int
                (Sx.rowAt
                  [fun (x_1 : Nat) => AV.v (Value.int IntKind.i64 (cmpI (CutD.w (CutD.hd a x)) (CutD.w (CutD.hd b y)))),
                    fun (x_1 : Nat) =>
                    AV.v (Value.int IntKind.i64 (cmpI (CutD.d (CutD.hd a x)) (CutD.d (CutD.hd b y)))),
                    fun (x_1 : Nat) =>
                    AV.v (Value.int IntKind.i64 (cmpI (CutD.l (CutD.hd b y)) (CutD.l (CutD.hd a x)))),
                    fun (x_1 : Nat) => AV.v (Value.int IntKind.i64 (cmpI x y))]
                  i (0 : Nat)))
            (4 : Nat) (0 : Nat) =
          or4 (cmpI (CutD.w a) (CutD.w b)) (cmpI (CutD.d a) (CutD.d b)) (cmpI (CutD.l b) (CutD.l a)) (cmpI x y))
      False)
    False := by
  intro _
  simp only [vc_db]
  refine ⟨⟨by omega, Int.ofNat_lt.2 ha⟩, ⟨by omega, Int.ofNat_lt.2 hb⟩, ?_⟩
  refine ⟨by trivial, ?_⟩
  show (bif cmpI a.w b.w == 0 then bif cmpI a.d b.d == 0 then bif cmpI b.l a.l == 0 then bif cmpI x y == 0 then 0 else cmpI x y else cmpI b.l a.l else cmpI a.d b.d else cmpI a.w b.w) = _
  unfold or4
  grind
theorem order_T : PureT Tryd.prog [] 55 order_t := by
  intro xs ps r h hp
  unfold order_t at h
  split at h
  · split at h
    · rename_i a b h1 h2
      split at h
      · rename_i x y hx hy
        cases h
        have ha : 0 < a.m := Nat.le_of_ble_eq_true (hp _ List.mem_cons_self)
        have hb : 0 < b.m := Nat.le_of_ble_eq_true (hp _ (List.mem_cons_of_mem _ List.mem_cons_self))
        refine weaken (ys := [_, _]) ⟨cutV_avM h1, cutV_avM h2, trivial⟩ (weaken (ys := [_, _]) ⟨cut_hd hx, cut_hd hy, trivial⟩ ?_)
        have e : orderI a b = or4 (cmpI a.w b.w) (cmpI a.d b.d) (cmpI b.l a.l) (cmpI x y) := by
          unfold orderI
          rw [hx, hy]
          rfl
        rw [e]
        exact pure_of_vc mixed Tor_sound (Eq.mp (by kernel_rfl) (order_vc a b x y ha hb) : vcFn Tryd.prog Tor 55 .auto [(a.hd x).av, (b.hd y).av] (.i (or4 (cmpI a.w b.w) (cmpI a.d b.d) (cmpI b.l a.l) (cmpI x y))))
      · cases h
    · cases h
  · cases h
end Go.Td
