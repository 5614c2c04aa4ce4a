/- The search of nest: what it holds; plain facts. -/
import Derived.Test.YtojonobehnbeiaaGreatDoorTzEa
import Derived.Test.YtojonobehnbeiaaGreatDoorSxU
namespace Go.Tz
open Go Go.Sx Go.Proofs
set_option maxRecDepth 100000
set_option maxHeartbeats 4000000
def srB (A : List Cut) (B : List Bar) (k : Int) (us : List Used) (f : Fd) (ku kt : Nat) (best : AV) : OB :=
  .box 64 9 (listFn [slE A, slE B, .i k, .ns ku 0 us.length, .ns kt 0 B.length, .i (costU B us), .b f.found, .i f.least, best])
def tkB (B : List Bar) (us : List Used) : OB := .arr 3 1 B.length fun j _ => .i (usedN us (j : Int) : Int)
def uArr (us : List Used) (m : Nat) : OB := .arr 50 3 m fun i j => Enc.enc (us.getD i u0) j
def srM (A : List Cut) (B : List Bar) (k : Int) (us : List Used) (f : Fd) (st : List Used) : Nat → OB
  | 0 => srB A B k us f 1 2 (slE f.best)
  | 1 => uArr st st.length
  | 2 => tkB B us
  | _ => .dead
structure headU (us st : List Used) : Prop where
  len : us.length ≤ st.length
  take : st.take us.length = us
theorem headU.at {us st : List Used} (h : headU us st) {i : Nat} (hi : i < us.length) : st.getD i u0 = us.getD i u0 := by
  obtain ⟨h1, h2⟩ := h
  rw [← h2, List.getD_eq_getElem?_getD, List.getD_eq_getElem?_getD, List.getElem?_take, if_pos hi]
def usedBk (σ : Sig) : Nat := match σ.bl 0 with | .box _ _ cs => blkAt (cs 3) | _ => 0
structure InS (m n : Nat) (us : List Used) : Prop where
  in_ : InU m n us
  len : us.length ≤ n
  ps : ∀ u ∈ us, u.ps.length ≤ n
  at_ : ∀ u ∈ us, u.at_.length ≤ n
structure ToldU (L : Nat) (eu : Nat → Nat → AV) (st : List Used) : Prop where
  len : L = st.length
  at_ : ∀ i j, i < L → j < 3 → avM (eu i j) (Enc.enc (st.getD i u0) j)
structure ToldT (L : Nat) (et : Nat → Nat → AV) (B : List Bar) (us : List Used) : Prop where
  len : L = B.length
  at_ : ∀ j, j < L → avM (et j 0) (.i (usedN us (j : Int) : Int))
structure Fit (A : List Cut) (B : List Bar) (fuel : Nat) (n : Int) (us : List Used) : Prop where
  pos : 0 ≤ n
  le : n.toNat ≤ A.length
  lt : A.length < fuel + n.toNat
  ok : InS B.length n.toNat us
def fromT (A : List Cut) (B : List Bar) (k : Int) (fuel : Nat) (nb : Nat) (bl : Nat → OB) (xs : List AV) (K : Nat → (Nat → OB) → AV → Prop) : Prop :=
  match xs with
  | [.np kk 0, .v (.int .i64 n)] =>
    match bl kk with
    | .box tb c cells =>
      match cells 3, cells 4 with
      | .ns ku 0 nu, .ns kt 0 nt =>
        match bl ku, bl kt with
        | .arr tu su L eu, .arr tt sz L2 et =>
          bsplit ((Nat.beq tb 64 && Nat.beq c 9 && Nat.beq tu 50 && Nat.beq su 3 && Nat.beq tt 3 && Nat.beq sz 1) && ((Nat.blt kk nb && Nat.blt ku nb && Nat.blt kt nb) && (!Nat.beq kk ku && !Nat.beq kk kt && !Nat.beq ku kt)))
            (∃ (us st : List Used) (f : Fd), (Wk [cells 0, cells 1, cells 2, cells 5, cells 6, cells 7, cells 8] [slE A, slE B, .i k, .i (costU B us), .b f.found, .i f.least, slE f.best] ∧
                (nu = us.length ∧ nt = B.length ∧ headU us st) ∧ ToldU L eu st ∧ ToldT L2 et B us ∧ Fit A B fuel n us) ∧
              ∀ (f' : Fd) (st' : List Used), f' = fromF A B k fuel n.toNat us f ∧ headU us st' →
                K (nb + 1) (upd (upd (upd (upd bl ku .dead) kk (srB A B k us f' nb kt (slE f'.best))) kt (tkB B us)) nb (uArr st' st'.length)) (.tup 0 fun _ => .junk)) False
        | _, _ => Fail kk
      | _, _ => Fail kk
    | _ => Fail kk
  | _ => Fail xs
structure SrS where
  f : Fd
  st : List Used
def srBlks (A : List Cut) (B : List Bar) (k : Int) (us : List Used) (z : SrS) : Nat → OB
  | 0 => srB A B k us z.f 3 2 (slE z.f.best)
  | 2 => tkB B us
  | 3 => uArr z.st z.st.length
  | _ => .dead
def keep_an (A : List Cut) (B : List Bar) (k : Int) (us : List Used) : Ann :=
  .two .auto (.two .auto (.two .auto (.one (.loop Nat (fun _ z => [(0, .np 0 0), (36, .ns 1 0 us.length), (37, .i us.length), (38, .i z)]) (fun _ z => [(0, srB A B k us ⟨true, costU B us, us⟩ 1 2 (.ns 5 0 z)), (5, uArr us z)]) 1 (fun _ z => z ≤ us.length) (fun _ z => us.length - z) .auto))))
def selB (_ : List AV) (bl : Nat → OB) : Nat :=
  match bl 0 with
  | .box _ _ cs => (match cs 8 with | .ns q _ _ => q | _ => 1000000)
  | _ => 1000000
def Tkp : Tb := T0.plus 70 (cloneP_t 1 8)
noncomputable def Tsr_ (A : List Cut) (B : List Bar) (k : Int) (fuel : Nat) (us : List Used) : Tb :=
  (((((((T0.plus 61 lay_t).plus 80 sect_t).plusF 70 (clone_t 3 1 8)).plusO 40 (bodyOf Tryz.prog T0 40 .auto)).plusO 41 (bodyOf Tryz.prog T0 41 .auto)).plusO 43 (bodyOf Tryz.prog T0 43 .auto)).plusO 69 (some (frzAfter selB (vcIn Tryz.prog Tkp 69 (keep_an A B k us))))).plusO 33 (some (fromT A B k fuel))
structure LoS where
  i : Nat
  f : Fd
  st : List Used
structure AtS where
  at_ : List Int
  is : Bool
def setC (σ : Sig) (j : Nat) (x : AV) : OB := match σ.bl 0 with | .box t n cs => .box t n (fun i => bif Nat.beq i j then x else cs i) | B => B
structure plusU (A : List Cut) (B : List Bar) (k : Int) (u : Used) (n : Nat) (z : AtS) : Prop where
  is : z.is = fitsOk (barAt B u) (lensL A (u.ps ++ [(n : Int)])) k
  at_ : z.at_ = fitsAt (barAt B u) (lensL A (u.ps ++ [(n : Int)])) k
def putU (us : List Used) (i n : Nat) (at_ : List Int) : Used := ⟨(us.getD i u0).bar, (us.getD i u0).ps ++ [(n : Int)], at_⟩
theorem vc_ff {A B : Prop} : bsplit false A B ↔ B := by simp [bsplit_iff]
theorem row_one (r : Nat → AV) : Sx.rowAt [r] = fun _ j => r j := by
  funext i j
  cases i <;> rfl
def appAV (ps : List Int) (n : Int) (i : Nat) : AV := if i < ps.length then .i (ps.getD i 0) else .i n
theorem appAV_at (ps : List Int) (n : Int) {i : Nat} (hi : i < ps.length + 1) : appAV ps n i = .i ((ps ++ [n]).getD i 0) := by
  unfold appAV
  split
  · rename_i h
    rw [List.getD_eq_getElem?_getD, List.getD_eq_getElem?_getD, List.getElem?_append_left h]
  · rename_i h
    obtain rfl : i = ps.length := by omega
    simp
theorem okApp (f : Bool) (ps : List Int) (n : Int) : slOk Int (AV.xl f 1 (ps.length + 1) fun i _ => if i < ps.length then AV.v (Value.int IntKind.i64 (ps.getD i 0)) else AV.v (Value.int IntKind.i64 n)) = true := by
  unfold slOk
  rw [Bool.and_eq_true]
  exact ⟨rfl, allN_of fun i hi => by dsimp only [Enc.ok]; split <;> rfl⟩
theorem deApp (f : Bool) (ps : List Int) (n : Int) : slD (α := Int) (AV.xl f 1 (ps.length + 1) fun i _ => if i < ps.length then AV.v (Value.int IntKind.i64 (ps.getD i 0)) else AV.v (Value.int IntKind.i64 n)) = ps ++ [n] := by
  refine List.ext_getElem (by simp [slD]) fun i h1 h2 => ?_
  have hi : i < ps.length + 1 := by simpa using h2
  have e : (AV.int (appAV ps n i)) = (ps ++ [n])[i] := by
    rw [appAV_at ps n hi, List.getD_eq_getElem?_getD, List.getElem?_eq_getElem h2]
    rfl
  simp only [slD, List.getElem_map, List.getElem_range]
  exact e
theorem deAppI (f : Bool) (ps : List Int) (n : Int) : intsOf (AV.xl f 1 (ps.length + 1) fun i _ => if i < ps.length then AV.v (Value.int IntKind.i64 (ps.getD i 0)) else AV.v (Value.int IntKind.i64 n)) = ps ++ [n] := deApp f ps n
theorem deOne (f : Bool) (n : Int) : slD (α := Int) (AV.xl f 1 1 fun _ _ => AV.v (Value.int IntKind.i64 n)) = [n] := rfl
theorem deOneI (f : Bool) (n : Int) : intsOf (AV.xl f 1 1 fun _ _ => AV.v (Value.int IntKind.i64 n)) = [n] := rfl
theorem okOne (f : Bool) (n : Int) : slOk Int (AV.xl f 1 1 fun _ _ => AV.v (Value.int IntKind.i64 n)) = true := rfl
theorem usedRow (u : Used) {j : Nat} (hj : j < 3) : avM (listFn [AV.v (Value.int IntKind.i64 u.bar), AV.xl false 1 u.ps.length fun i _ => AV.v (Value.int IntKind.i64 (u.ps.getD i 0)), AV.xl false 1 u.at_.length fun i _ => AV.v (Value.int IntKind.i64 (u.at_.getD i 0))] j) (Enc.enc u j) := by
  match j, hj with
  | 0, _ => exact avM_refl _
  | 1, _ => exact avM_refl _
  | 2, _ => exact avM_refl _
theorem putRow (u : Used) (n : Int) (at_ : List Int) {j : Nat} (hj : j < 3) :
    avM (listFn [AV.v (Value.int IntKind.i64 u.bar), AV.xl false 1 (u.ps.length + 1) fun i _ => if i < u.ps.length then AV.v (Value.int IntKind.i64 (u.ps.getD i 0)) else AV.v (Value.int IntKind.i64 n), AV.xl false 1 at_.length fun i _ => AV.v (Value.int IntKind.i64 (at_.getD i 0))] j) (Enc.enc (⟨u.bar, u.ps ++ [n], at_⟩ : Used) j) := by
  match j, hj with
  | 0, _ => exact avM_refl _
  | 1, _ =>
    show avM (AV.xl false 1 (u.ps.length + 1) _) (AV.xl false 1 (u.ps ++ [n]).length _)
    refine ⟨(fun h => by cases h), rfl, by simp, fun i j hi _ => ?_⟩
    exact avM_of_eq (appAV_at u.ps n hi)
  | 2, _ => exact avM_refl _
theorem newRow (b n : Int) (at_ : List Int) {j : Nat} (hj : j < 3) :
    avM (listFn [AV.v (Value.int IntKind.i64 b), AV.xl true 1 1 fun _ _ => AV.v (Value.int IntKind.i64 n), AV.xl false 1 at_.length fun i _ => AV.v (Value.int IntKind.i64 (at_.getD i 0))] j) (Enc.enc (⟨b, [n], at_⟩ : Used) j) := by
  match j, hj with
  | 0, _ => exact avM_refl _
  | 1, _ =>
    show avM (AV.xl true 1 1 _) (AV.xl false 1 [n].length _)
    refine ⟨(fun h => by cases h), rfl, rfl, fun i j hi _ => ?_⟩
    obtain rfl : i = 0 := Nat.lt_one_iff.1 hi
    exact avM_refl _
  | 2, _ => exact avM_refl _
theorem headU.refl (us : List Used) : headU us us := ⟨Nat.le_refl _, List.take_length⟩
theorem headU.set {us st : List Used} (h : headU us st) (i : Nat) (u : Used) : headU (us.set i u) (st.set i u) := by
  refine ⟨by simpa using h.len, ?_⟩
  rw [List.length_set, List.take_set, h.take]
theorem headU.back {us st : List Used} {i : Nat} {v : Used} (hi : i < us.length) (h : headU (us.set i v) st) : headU us (st.set i (us.getD i u0)) := by
  have := h.set i (us.getD i u0)
  rw [List.set_set] at this
  have e : us.set i (us.getD i u0) = us := by
    rw [List.getD_eq_getElem?_getD, List.getElem?_eq_getElem hi]
    exact List.set_getElem_self hi
  rwa [e] at this
theorem headU.app {us st : List Used} {u : Used} (h : headU (us ++ [u]) st) : headU us st := by
  have h1 := h.len
  have h2 := congrArg (List.take us.length) h.take
  rw [List.take_take, List.take_left'] at h2
  · simp only [List.length_append, List.length_singleton] at h1 h2
    rw [Nat.min_eq_left (by omega)] at h2
    exact ⟨by omega, h2⟩
  · rfl
theorem usedN_set {us : List Used} {i : Nat} {v : Used} (hi : i < us.length) (hb : v.bar = (us.getD i u0).bar) (k : Int) : usedN (us.set i v) k = usedN us k := by
  have e : ∀ l : List Used, usedN l k = (l.map (·.bar)).countP (· == k) := fun l => by unfold usedN; rw [List.countP_map]; rfl
  rw [e, e, map_set_same _ us i v u0 hi hb]
theorem usedN_app (us : List Used) (u : Used) (k : Int) : usedN (us ++ [u]) k = usedN us k + if u.bar = k then 1 else 0 := by
  unfold usedN
  rw [List.countP_append, List.countP_singleton]
  simp
theorem usedN_len (us : List Used) (k : Int) : usedN us k ≤ us.length := List.countP_le_length
theorem getD_app_last (us : List Used) (u : Used) {i : Nat} (h : ¬ i < us.length) (hi : i < us.length + 1) : (us ++ [u]).getD i u0 = u := by
  obtain rfl : i = us.length := by omega
  simp [List.getD_eq_getElem?_getD]
theorem getD_app_left (us : List Used) (u : Used) {i : Nat} (h : i < us.length) : (us ++ [u]).getD i u0 = us.getD i u0 := by
  rw [List.getD_eq_getElem?_getD, List.getD_eq_getElem?_getD, List.getElem?_append_left h]
theorem getD_mem {us : List Used} {i : Nat} (h : i < us.length) : us.getD i u0 ∈ us := by
  rw [List.getD_eq_getElem?_getD, List.getElem?_eq_getElem h]
  exact List.getElem_mem h
theorem getD_memB {B : List Bar} {i : Nat} (h : i < B.length) : B.getD i b0 ∈ B := by
  rw [List.getD_eq_getElem?_getD, List.getElem?_eq_getElem h]
  exact List.getElem_mem h
theorem getD_setU {us : List Used} {i j : Nat} (v : Used) (hj : j < us.length) : (us.set i v).getD j u0 = if j = i then v else us.getD j u0 := by
  rw [List.getD_eq_getElem?_getD, List.getD_eq_getElem?_getD, List.getElem?_set]
  by_cases e : i = j
  · subst e; rw [if_pos rfl, if_pos rfl, if_pos hj]; rfl
  · rw [if_neg e, if_neg (Ne.symm e)]
theorem costU_bound {B : List Bar} (hB : GoodB B) : ∀ {us : List Used}, (∀ u ∈ us, 0 ≤ u.bar ∧ u.bar < B.length) → 0 ≤ costU B us ∧ costU B us ≤ us.length * 1073741824
  | [], _ => ⟨Int.le_refl _, Int.le_refl _⟩
  | u :: us, h => by
    obtain ⟨i1, i2⟩ := costU_bound hB (us := us) fun v hv => h v (List.mem_cons_of_mem _ hv)
    have hu := h u List.mem_cons_self
    have hb := barE_gaps (hB _ (getD_memB (B := B) (i := u.bar.toNat) (by omega)))
    have hc := hb.2.2.2.2.2.2.2.2
    have e : costU B (u :: us) = (B.getD u.bar.toNat b0).c + costU B us := by simp [costU, barAt]
    rw [e]
    simp only [List.length_cons]
    constructor
    · omega
    · push_cast; omega
theorem InS.put {m n : Nat} {us : List Used} (h : InS m n us) {i : Nat} (hi : i < us.length) {at_ : List Int} (ha : at_.length = (us.getD i u0).ps.length + 1) : InS m (n + 1) (us.set i (putU us i n at_)) := by
  have hg := getD_mem hi
  refine ⟨fun v hv => ?_, by rw [List.length_set]; have := h.len; omega, fun v hv => ?_, fun v hv => ?_⟩
  · rcases List.mem_or_eq_of_mem_set hv with hv | rfl
    · obtain ⟨a, b, c⟩ := h.in_ v hv
      exact ⟨a, b, fun p hp => by have := c p hp; omega⟩
    · obtain ⟨a, b, c⟩ := h.in_ _ hg
      refine ⟨a, b, fun p hp => ?_⟩
      rcases List.mem_append.1 hp with hp | hp
      · have := c p hp; omega
      · rw [List.mem_singleton] at hp; omega
  · rcases List.mem_or_eq_of_mem_set hv with hv | rfl
    · have := h.ps v hv; omega
    · have := h.ps _ hg
      simp only [putU, List.length_append, List.length_singleton]; omega
  · rcases List.mem_or_eq_of_mem_set hv with hv | rfl
    · have := h.at_ v hv; omega
    · have := h.ps _ hg
      simp only [putU]; omega
theorem InS.new {m n : Nat} {us : List Used} (h : InS m n us) {j : Nat} (hj : j < m) {at_ : List Int} (ha : at_.length = 1) : InS m (n + 1) (us ++ [⟨(j : Int), [(n : Int)], at_⟩]) := by
  refine ⟨fun v hv => ?_, by simp only [List.length_append, List.length_singleton]; have := h.len; omega, fun v hv => ?_, fun v hv => ?_⟩
  · rcases List.mem_append.1 hv with hv | hv
    · obtain ⟨a, b, c⟩ := h.in_ v hv
      exact ⟨a, b, fun p hp => by have := c p hp; omega⟩
    · rw [List.mem_singleton] at hv
      subst hv
      refine ⟨by simp only; omega, by simp only; omega, fun p hp => ?_⟩
      simp only [List.mem_singleton] at hp; omega
  · rcases List.mem_append.1 hv with hv | hv
    · have := h.ps v hv; omega
    · rw [List.mem_singleton] at hv; subst hv; simp only [List.length_singleton]; omega
  · rcases List.mem_append.1 hv with hv | hv
    · have := h.at_ v hv; omega
    · rw [List.mem_singleton] at hv; subst hv; simp only; omega
end Go.Tz
