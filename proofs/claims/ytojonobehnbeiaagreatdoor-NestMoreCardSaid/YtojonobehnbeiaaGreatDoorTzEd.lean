/- nest.search.keep and nest.search.from. -/
import Derived.Test.YtojonobehnbeiaaGreatDoorTzEa
import Derived.Test.YtojonobehnbeiaaGreatDoorSxU
set_option linter.unusedSimpArgs false
namespace Go.Tz
open Go Go.Sx Go.Proofs
set_option maxRecDepth 100000
set_option maxHeartbeats 4000000
def srB (A : List Cut) (B : List Bar) (k : Int) (us : List Used) (f : Fd) (ku kt : Nat) (best : AV) : OB :=
  .box 64 9 (listFn [slE A, slE B, .i k, .ns ku 0 us.length, .ns kt 0 B.length, .i (costU B us), .b f.found, .i f.least, best])
def tkB (B : List Bar) (us : List Used) : OB := .arr 3 1 B.length fun j _ => .i (usedN us (j : Int) : Int)
def uArr (us : List Used) (m : Nat) : OB := .arr 50 3 m fun i j => Enc.enc (us.getD i u0) j
def srM (A : List Cut) (B : List Bar) (k : Int) (us : List Used) (f : Fd) (st : List Used) : Nat → OB
  | 0 => srB A B k us f 1 2 (slE f.best)
  | 1 => uArr st st.length
  | 2 => tkB B us
  | _ => .dead
structure headU (us st : List Used) : Prop where
  len : us.length ≤ st.length
  take : st.take us.length = us
theorem headU.at {us st : List Used} (h : headU us st) {i : Nat} (hi : i < us.length) : st.getD i u0 = us.getD i u0 := by
  obtain ⟨h1, h2⟩ := h
  rw [← h2, List.getD_eq_getElem?_getD, List.getD_eq_getElem?_getD, List.getElem?_take, if_pos hi]
def usedBk (σ : Sig) : Nat := match σ.bl 0 with | .box _ _ cs => blkAt (cs 3) | _ => 0
structure InS (m n : Nat) (us : List Used) : Prop where
  in_ : InU m n us
  len : us.length ≤ n
  ps : ∀ u ∈ us, u.ps.length ≤ n
  at_ : ∀ u ∈ us, u.at_.length ≤ n
structure ToldU (L : Nat) (eu : Nat → Nat → AV) (st : List Used) : Prop where
  len : L = st.length
  at_ : ∀ i j, i < L → j < 3 → avM (eu i j) (Enc.enc (st.getD i u0) j)
structure ToldT (L : Nat) (et : Nat → Nat → AV) (B : List Bar) (us : List Used) : Prop where
  len : L = B.length
  at_ : ∀ j, j < L → avM (et j 0) (.i (usedN us (j : Int) : Int))
structure Fit (A : List Cut) (B : List Bar) (fuel : Nat) (n : Int) (us : List Used) : Prop where
  pos : 0 ≤ n
  le : n.toNat ≤ A.length
  lt : A.length < fuel + n.toNat
  ok : InS B.length n.toNat us
def fromT (A : List Cut) (B : List Bar) (k : Int) (fuel : Nat) (nb : Nat) (bl : Nat → OB) (xs : List AV) (K : Nat → (Nat → OB) → AV → Prop) : Prop :=
  match xs with
  | [.np kk 0, .v (.int .i64 n)] =>
    match bl kk with
    | .box tb c cells =>
      match cells 3, cells 4 with
      | .ns ku 0 nu, .ns kt 0 nt =>
        match bl ku, bl kt with
        | .arr tu su L eu, .arr tt sz L2 et =>
          bsplit ((Nat.beq tb 64 && Nat.beq c 9 && Nat.beq tu 50 && Nat.beq su 3 && Nat.beq tt 3 && Nat.beq sz 1) && ((Nat.blt kk nb && Nat.blt ku nb && Nat.blt kt nb) && (!Nat.beq kk ku && !Nat.beq kk kt && !Nat.beq ku kt)))
            (∃ (us st : List Used) (f : Fd), (Wk [cells 0, cells 1, cells 2, cells 5, cells 6, cells 7, cells 8] [slE A, slE B, .i k, .i (costU B us), .b f.found, .i f.least, slE f.best] ∧
                (nu = us.length ∧ nt = B.length ∧ headU us st) ∧ ToldU L eu st ∧ ToldT L2 et B us ∧ Fit A B fuel n us) ∧
              ∀ (f' : Fd) (st' : List Used), f' = fromF A B k fuel n.toNat us f ∧ headU us st' →
                K (nb + 1) (upd (upd (upd (upd bl ku .dead) kk (srB A B k us f' nb kt (slE f'.best))) kt (tkB B us)) nb (uArr st' st'.length)) (.tup 0 fun _ => .junk)) False
        | _, _ => Fail kk
      | _, _ => Fail kk
    | _ => Fail kk
  | _ => Fail xs
structure SrS where
  f : Fd
  st : List Used
def srBlks (A : List Cut) (B : List Bar) (k : Int) (us : List Used) (z : SrS) : Nat → OB
  | 0 => srB A B k us z.f 3 2 (slE z.f.best)
  | 2 => tkB B us
  | 3 => uArr z.st z.st.length
  | _ => .dead
def keep_an (A : List Cut) (B : List Bar) (k : Int) (us : List Used) : Ann :=
  .two .auto (.two .auto (.two .auto (.one (.loop Nat (fun _ z => [(0, .np 0 0), (36, .ns 1 0 us.length), (37, .i us.length), (38, .i z)]) (fun _ z => [(0, srB A B k us ⟨true, costU B us, us⟩ 1 2 (.ns 5 0 z)), (5, uArr us z)]) 1 (fun _ z => z ≤ us.length) (fun _ z => us.length - z) .auto))))
def selB (_ : List AV) (bl : Nat → OB) : Nat :=
  match bl 0 with
  | .box _ _ cs => (match cs 8 with | .ns q _ _ => q | _ => 1000000)
  | _ => 1000000
def Tkp : Tb := T0.plus 70 (cloneP_t 1 8)
noncomputable def Tsr_ (A : List Cut) (B : List Bar) (k : Int) (fuel : Nat) (us : List Used) : Tb :=
  (((((((T0.plus 61 lay_t).plus 80 sect_t).plusF 70 (clone_t 3 1 8)).plusO 40 (bodyOf Tryz.prog T0 40 .auto)).plusO 41 (bodyOf Tryz.prog T0 41 .auto)).plusO 43 (bodyOf Tryz.prog T0 43 .auto)).plusO 69 (some (frzAfter selB (vcIn Tryz.prog Tkp 69 (keep_an A B k us))))).plusO 33 (some (fromT A B k fuel))
structure LoS where
  i : Nat
  f : Fd
  st : List Used
structure AtS where
  at_ : List Int
  is : Bool
def setC (σ : Sig) (j : Nat) (x : AV) : OB := match σ.bl 0 with | .box t n cs => .box t n (fun i => bif Nat.beq i j then x else cs i) | B => B
structure plusU (A : List Cut) (B : List Bar) (k : Int) (u : Used) (n : Nat) (z : AtS) : Prop where
  is : z.is = fitsOk (barAt B u) (lensL A (u.ps ++ [(n : Int)])) k
  at_ : z.at_ = fitsAt (barAt B u) (lensL A (u.ps ++ [(n : Int)])) k
def putU (us : List Used) (i n : Nat) (at_ : List Int) : Used := ⟨(us.getD i u0).bar, (us.getD i u0).ps ++ [(n : Int)], at_⟩
theorem vc_ff {A B : Prop} : bsplit false A B ↔ B := by simp [bsplit_iff]
theorem row_one (r : Nat → AV) : Sx.rowAt [r] = fun _ j => r j := by
  funext i j
  cases i <;> rfl
def appAV (ps : List Int) (n : Int) (i : Nat) : AV := if i < ps.length then .i (ps.getD i 0) else .i n
theorem appAV_at (ps : List Int) (n : Int) {i : Nat} (hi : i < ps.length + 1) : appAV ps n i = .i ((ps ++ [n]).getD i 0) := by
  unfold appAV
  split
  · rename_i h
    rw [List.getD_eq_getElem?_getD, List.getD_eq_getElem?_getD, List.getElem?_append_left h]
  · rename_i h
    obtain rfl : i = ps.length := by omega
    simp
theorem okApp (f : Bool) (ps : List Int) (n : Int) : slOk Int (AV.xl f 1 (ps.length + 1) fun i _ => if i < ps.length then AV.v (Value.int IntKind.i64 (ps.getD i 0)) else AV.v (Value.int IntKind.i64 n)) = true := by
  unfold slOk
  rw [Bool.and_eq_true]
  exact ⟨rfl, allN_of fun i hi => by dsimp only [Enc.ok]; split <;> rfl⟩
theorem deApp (f : Bool) (ps : List Int) (n : Int) : slD (α := Int) (AV.xl f 1 (ps.length + 1) fun i _ => if i < ps.length then AV.v (Value.int IntKind.i64 (ps.getD i 0)) else AV.v (Value.int IntKind.i64 n)) = ps ++ [n] := by
  refine List.ext_getElem (by simp [slD]) fun i h1 h2 => ?_
  have hi : i < ps.length + 1 := by simpa using h2
  have e : (AV.int (appAV ps n i)) = (ps ++ [n])[i] := by
    rw [appAV_at ps n hi, List.getD_eq_getElem?_getD, List.getElem?_eq_getElem h2]
    rfl
  simp only [slD, List.getElem_map, List.getElem_range]
  exact e
theorem deAppI (f : Bool) (ps : List Int) (n : Int) : intsOf (AV.xl f 1 (ps.length + 1) fun i _ => if i < ps.length then AV.v (Value.int IntKind.i64 (ps.getD i 0)) else AV.v (Value.int IntKind.i64 n)) = ps ++ [n] := deApp f ps n
theorem deOne (f : Bool) (n : Int) : slD (α := Int) (AV.xl f 1 1 fun _ _ => AV.v (Value.int IntKind.i64 n)) = [n] := rfl
theorem deOneI (f : Bool) (n : Int) : intsOf (AV.xl f 1 1 fun _ _ => AV.v (Value.int IntKind.i64 n)) = [n] := rfl
theorem okOne (f : Bool) (n : Int) : slOk Int (AV.xl f 1 1 fun _ _ => AV.v (Value.int IntKind.i64 n)) = true := rfl
theorem usedRow (u : Used) {j : Nat} (hj : j < 3) : avM (listFn [AV.v (Value.int IntKind.i64 u.bar), AV.xl false 1 u.ps.length fun i _ => AV.v (Value.int IntKind.i64 (u.ps.getD i 0)), AV.xl false 1 u.at_.length fun i _ => AV.v (Value.int IntKind.i64 (u.at_.getD i 0))] j) (Enc.enc u j) := by
  match j, hj with
  | 0, _ => exact avM_refl _
  | 1, _ => exact avM_refl _
  | 2, _ => exact avM_refl _
theorem putRow (u : Used) (n : Int) (at_ : List Int) {j : Nat} (hj : j < 3) :
    avM (listFn [AV.v (Value.int IntKind.i64 u.bar), AV.xl false 1 (u.ps.length + 1) fun i _ => if i < u.ps.length then AV.v (Value.int IntKind.i64 (u.ps.getD i 0)) else AV.v (Value.int IntKind.i64 n), AV.xl false 1 at_.length fun i _ => AV.v (Value.int IntKind.i64 (at_.getD i 0))] j) (Enc.enc (⟨u.bar, u.ps ++ [n], at_⟩ : Used) j) := by
  match j, hj with
  | 0, _ => exact avM_refl _
  | 1, _ =>
    show avM (AV.xl false 1 (u.ps.length + 1) _) (AV.xl false 1 (u.ps ++ [n]).length _)
    refine ⟨(fun h => by cases h), rfl, by simp, fun i j hi _ => ?_⟩
    exact avM_of_eq (appAV_at u.ps n hi)
  | 2, _ => exact avM_refl _
theorem newRow (b n : Int) (at_ : List Int) {j : Nat} (hj : j < 3) :
    avM (listFn [AV.v (Value.int IntKind.i64 b), AV.xl true 1 1 fun _ _ => AV.v (Value.int IntKind.i64 n), AV.xl false 1 at_.length fun i _ => AV.v (Value.int IntKind.i64 (at_.getD i 0))] j) (Enc.enc (⟨b, [n], at_⟩ : Used) j) := by
  match j, hj with
  | 0, _ => exact avM_refl _
  | 1, _ =>
    show avM (AV.xl true 1 1 _) (AV.xl false 1 [n].length _)
    refine ⟨(fun h => by cases h), rfl, rfl, fun i j hi _ => ?_⟩
    obtain rfl : i = 0 := Nat.lt_one_iff.1 hi
    exact avM_refl _
  | 2, _ => exact avM_refl _
theorem headU.refl (us : List Used) : headU us us := ⟨Nat.le_refl _, List.take_length⟩
theorem headU.set {us st : List Used} (h : headU us st) (i : Nat) (u : Used) : headU (us.set i u) (st.set i u) := by
  refine ⟨by simpa using h.len, ?_⟩
  rw [List.length_set, List.take_set, h.take]
theorem headU.back {us st : List Used} {i : Nat} {v : Used} (hi : i < us.length) (h : headU (us.set i v) st) : headU us (st.set i (us.getD i u0)) := by
  have := h.set i (us.getD i u0)
  rw [List.set_set] at this
  have e : us.set i (us.getD i u0) = us := by
    rw [List.getD_eq_getElem?_getD, List.getElem?_eq_getElem hi]
    exact List.set_getElem_self hi
  rwa [e] at this
theorem headU.app {us st : List Used} {u : Used} (h : headU (us ++ [u]) st) : headU us st := by
  have h1 := h.len
  have h2 := congrArg (List.take us.length) h.take
  rw [List.take_take, List.take_left'] at h2
  · simp only [List.length_append, List.length_singleton] at h1 h2
    rw [Nat.min_eq_left (by omega)] at h2
    exact ⟨by omega, h2⟩
  · rfl
theorem usedN_set {us : List Used} {i : Nat} {v : Used} (hi : i < us.length) (hb : v.bar = (us.getD i u0).bar) (k : Int) : usedN (us.set i v) k = usedN us k := by
  have e : ∀ l : List Used, usedN l k = (l.map (·.bar)).countP (· == k) := fun l => by unfold usedN; rw [List.countP_map]; rfl
  rw [e, e, map_set_same _ us i v u0 hi hb]
theorem usedN_app (us : List Used) (u : Used) (k : Int) : usedN (us ++ [u]) k = usedN us k + if u.bar = k then 1 else 0 := by
  unfold usedN
  rw [List.countP_append, List.countP_singleton]
  simp
theorem usedN_len (us : List Used) (k : Int) : usedN us k ≤ us.length := List.countP_le_length
theorem getD_app_last (us : List Used) (u : Used) {i : Nat} (h : ¬ i < us.length) (hi : i < us.length + 1) : (us ++ [u]).getD i u0 = u := by
  obtain rfl : i = us.length := by omega
  simp [List.getD_eq_getElem?_getD]
theorem getD_app_left (us : List Used) (u : Used) {i : Nat} (h : i < us.length) : (us ++ [u]).getD i u0 = us.getD i u0 := by
  rw [List.getD_eq_getElem?_getD, List.getD_eq_getElem?_getD, List.getElem?_append_left h]
theorem getD_mem {us : List Used} {i : Nat} (h : i < us.length) : us.getD i u0 ∈ us := by
  rw [List.getD_eq_getElem?_getD, List.getElem?_eq_getElem h]
  exact List.getElem_mem h
theorem getD_memB {B : List Bar} {i : Nat} (h : i < B.length) : B.getD i b0 ∈ B := by
  rw [List.getD_eq_getElem?_getD, List.getElem?_eq_getElem h]
  exact List.getElem_mem h
theorem getD_setU {us : List Used} {i j : Nat} (v : Used) (hj : j < us.length) : (us.set i v).getD j u0 = if j = i then v else us.getD j u0 := by
  rw [List.getD_eq_getElem?_getD, List.getD_eq_getElem?_getD, List.getElem?_set]
  by_cases e : i = j
  · subst e; rw [if_pos rfl, if_pos rfl, if_pos hj]; rfl
  · rw [if_neg e, if_neg (Ne.symm e)]
theorem costU_bound {B : List Bar} (hB : GoodB B) : ∀ {us : List Used}, (∀ u ∈ us, 0 ≤ u.bar ∧ u.bar < B.length) → 0 ≤ costU B us ∧ costU B us ≤ us.length * 1073741824
  | [], _ => ⟨Int.le_refl _, Int.le_refl _⟩
  | u :: us, h => by
    obtain ⟨i1, i2⟩ := costU_bound hB (us := us) fun v hv => h v (List.mem_cons_of_mem _ hv)
    have hu := h u List.mem_cons_self
    have hb := barE_gaps (hB _ (getD_memB (B := B) (i := u.bar.toNat) (by omega)))
    have hc := hb.2.2.2.2.2.2.2.2
    have e : costU B (u :: us) = (B.getD u.bar.toNat b0).c + costU B us := by simp [costU, barAt]
    rw [e]
    simp only [List.length_cons]
    constructor
    · omega
    · push_cast; omega
theorem InS.put {m n : Nat} {us : List Used} (h : InS m n us) {i : Nat} (hi : i < us.length) {at_ : List Int} (ha : at_.length = (us.getD i u0).ps.length + 1) : InS m (n + 1) (us.set i (putU us i n at_)) := by
  have hg := getD_mem hi
  refine ⟨fun v hv => ?_, by rw [List.length_set]; have := h.len; omega, fun v hv => ?_, fun v hv => ?_⟩
  · rcases List.mem_or_eq_of_mem_set hv with hv | rfl
    · obtain ⟨a, b, c⟩ := h.in_ v hv
      exact ⟨a, b, fun p hp => by have := c p hp; omega⟩
    · obtain ⟨a, b, c⟩ := h.in_ _ hg
      refine ⟨a, b, fun p hp => ?_⟩
      rcases List.mem_append.1 hp with hp | hp
      · have := c p hp; omega
      · rw [List.mem_singleton] at hp; omega
  · rcases List.mem_or_eq_of_mem_set hv with hv | rfl
    · have := h.ps v hv; omega
    · have := h.ps _ hg
      simp only [putU, List.length_append, List.length_singleton]; omega
  · rcases List.mem_or_eq_of_mem_set hv with hv | rfl
    · have := h.at_ v hv; omega
    · have := h.ps _ hg
      simp only [putU]; omega
theorem InS.new {m n : Nat} {us : List Used} (h : InS m n us) {j : Nat} (hj : j < m) {at_ : List Int} (ha : at_.length = 1) : InS m (n + 1) (us ++ [⟨(j : Int), [(n : Int)], at_⟩]) := by
  refine ⟨fun v hv => ?_, by simp only [List.length_append, List.length_singleton]; have := h.len; omega, fun v hv => ?_, fun v hv => ?_⟩
  · rcases List.mem_append.1 hv with hv | hv
    · obtain ⟨a, b, c⟩ := h.in_ v hv
      exact ⟨a, b, fun p hp => by have := c p hp; omega⟩
    · rw [List.mem_singleton] at hv
      subst hv
      refine ⟨by simp only; omega, by simp only; omega, fun p hp => ?_⟩
      simp only [List.mem_singleton] at hp; omega
  · rcases List.mem_append.1 hv with hv | hv
    · have := h.ps v hv; omega
    · rw [List.mem_singleton] at hv; subst hv; simp only [List.length_singleton]; omega
  · rcases List.mem_append.1 hv with hv | hv
    · have := h.at_ v hv; omega
    · rw [List.mem_singleton] at hv; subst hv; simp only; omega
def fnI (f p q : Nat) : AV := .fn (.func f) 0 (fun _ => .junk) 2 (listFn [.np p 0, .np q 0])
def frB (n : Nat) : List (Nat × OB) := [(3, .box 60 1 fun _ => .np 0 0), (4, .box 3 1 fun _ => .i (n : Int)), (5, .box 65 1 fun _ => .fn (.func 33) 1 (fun _ => .np 0 0) 0 fun _ => .junk)]
def itB (n p q : Nat) : List (Nat × OB) := [(p, .box 73 1 fun _ => .np 0 0), (q, .box 3 1 fun _ => .i (n : Int))]
def rdB (l : Nat) : List (Nat × OB) := [(l, .lrec .ready none)]
def adB (A : List Cut) (B : List Bar) (k : Int) (n : Nat) (us : List Used) (z : LoS) : List (Nat × OB) :=
  [(0, srB A B k us z.f 9 2 (slE z.f.best)), (1, .dead), (2, tkB B us), (9, uArr z.st z.st.length)] ++ frB n ++ itB n 6 7 ++ rdB 8
def fsB (A : List Cut) (B : List Bar) (k : Int) (n : Nat) (us : List Used) (z : LoS) : List (Nat × OB) :=
  [(0, srB A B k us z.f 13 2 (slE z.f.best)), (1, .dead), (2, tkB B us), (9, .dead), (13, uArr z.st z.st.length)] ++ frB n ++ [(6, .dead), (7, .dead), (8, .dead)] ++ itB n 10 11 ++ rdB 12
def addV (us : List Used) (i : Nat) : List (Nat × AV) := [(0, .yl 8), (1, .np 6 0), (2, .np 7 0), (12, .i us.length), (13, .i i)]
def freV (B : List Bar) (i : Nat) : List (Nat × AV) := [(0, .yl 12), (1, .np 10 0), (2, .np 11 0), (11, slE B), (12, .i B.length), (13, .i i)]
def added_an (A : List Cut) (B : List Bar) (k : Int) (fuel n : Nat) (us : List Used) (f : Fd) : Ann :=
  .two .auto (.one (.loop LoS (fun _ z => addV us z.i) (fun _ z => adB A B k n us z) 1 (fun _ z => z.i ≤ us.length ∧ z.f = addF A B k fuel n us f z.i ∧ headU us z.st) (fun _ z => us.length - z.i)
    (.two .auto (.two .auto (.two (.one (.two .auto
      (.join Used (fun σ _ => [(0, .yl 8), (1, .np 6 0), (2, .np 7 0), (12, .i us.length), (13, σ.tm 13), (4, σ.tm 4), (5, .np 10 0)]) (fun σ u => [(10, .box 50 3 (Enc.enc u))]) 1 (fun σ u => u = us.getD (AV.int (σ.tm 4)).toNat u0) .auto
      (.two .auto
      (.join AtS (fun σ z => [(0, .yl 8), (1, .np 6 0), (2, .np 7 0), (12, .i us.length), (13, σ.tm 13), (4, σ.tm 4), (6, slE z.at_), (7, .b z.is)]) (fun _ _ => []) 0 (fun σ z => plusU A B k (us.getD (AV.int (σ.tm 4)).toNat u0) n z) .auto (.split 7 .auto .auto)))))) .auto)))))
def fresh_an (A : List Cut) (B : List Bar) (k : Int) (fuel n : Nat) (us : List Used) (f : Fd) : Ann :=
  .two .auto (.one (.loop LoS (fun _ z => freV B z.i) (fun _ z => fsB A B k n us z) 1 (fun _ z => z.i ≤ B.length ∧ z.f = freF A B k fuel n us (addF A B k fuel n us f us.length) z.i ∧ headU us z.st) (fun _ z => B.length - z.i)
    (.two .auto (.two .auto (.two (.one 
      (.join Bar (fun σ _ => [(0, .yl 12), (1, .np 10 0), (2, .np 11 0), (11, slE B), (12, .i B.length), (13, σ.tm 13), (4, σ.tm 13), (5, .np 14 0)]) (fun σ b => [(14, .box 26 6 (Enc.enc b))]) 1 (fun σ b => b = B.getD (AV.int (σ.tm 13)).toNat b0) .auto
      (.two .auto
      (.join AtS (fun σ z => [(0, .yl 12), (1, .np 10 0), (2, .np 11 0), (11, slE B), (12, .i B.length), (13, σ.tm 13), (4, σ.tm 4), (6, slE z.at_), (7, .b z.is)]) (fun _ _ => []) 0 (fun σ z => plusU A B k ⟨AV.int (σ.tm 4), [], []⟩ n z) .auto (.split 7 .auto .auto))))) .auto)))))
def addB_an (n : Nat) (us : List Used) : Ann :=
  .one (.join Used (fun σ _ => [(2, .np 3 0), (3, .np 4 0), (4, .np 5 0), (5, σ.tm 5), (6, σ.tm 6), (7, .np 11 0)]) (fun σ u => [(11, .box 50 3 (Enc.enc u))]) 1 (fun σ u => u = us.getD (AV.int (σ.tm 5)).toNat u0) .auto
    (.join (List Used) (fun σ _ => [(2, .np 3 0), (3, .np 4 0), (4, .np 5 0), (5, σ.tm 5), (7, .np 11 0)]) (fun σ z => [(9, uArr z z.length)]) 0
    (fun σ z => headU (us.set (AV.int (σ.tm 5)).toNat (putU us (AV.int (σ.tm 5)).toNat n (intsOf (σ.tm 6)))) z) .auto .auto))
def newB_an (B : List Bar) (n : Nat) (us : List Used) : Ann :=
  .one (.join Unit (fun σ _ => [(2, .np 3 0), (3, .np 4 0), (4, .np 5 0), (8, σ.tm 8)])
    (fun σ _ => [(0, setC σ 3 (.ns 15 0 (us.length + 1))), (13, .dead), (2, tkB B (us ++ [⟨AV.int (σ.tm 8), [(n : Int)], intsOf (σ.tm 9)⟩])), (15, uArr (us ++ [⟨AV.int (σ.tm 8), [(n : Int)], intsOf (σ.tm 9)⟩]) (us.length + 1))]) 1
    (fun _ _ => True) .auto .auto)
def from_an (A : List Cut) (B : List Bar) (k : Int) (fuel n : Nat) (us st : List Used) (f : Fd) : Ann :=
  .two .auto (.two .auto (.two .auto (.two .auto
    (.join SrS (fun _ _ => [(2, .np 3 0), (3, .np 4 0), (4, .np 5 0)]) (fun _ z => [(0, srB A B k us z.f 9 2 (slE z.f.best)), (1, .dead), (2, tkB B us), (9, uArr z.st z.st.length)] ++ frB n ++ [(6, .dead), (7, .dead), (8, .dead)]) 4
      (fun _ z => z.f = addF A B k fuel n us f us.length ∧ headU us z.st)
      (.join Unit (fun _ _ => [(2, .np 3 0), (3, .np 4 0), (4, .np 5 0), (41, fnI 79 6 7)]) (fun _ _ => [(0, srB A B k us f 1 2 (slE f.best)), (1, uArr st st.length), (2, tkB B us)] ++ frB n ++ itB n 6 7) 2 (fun _ _ => True) .auto
        (.one (.range (added_an A B k fuel n us f) .auto (addB_an n us))))
      (.two .auto (.one (.range (fresh_an A B k fuel n us f) .auto (newB_an B n us))))))))
theorem from_vc (A : List Cut) (B : List Bar) (k : Int) (fuel n : Nat) (us st : List Used) (f : Fd) (hB : GoodB B) (hBl : B.length ≤ 64) (hA : A.length ≤ 8) (hu : headU us st) (hf : Fit A B (fuel + 1) n us) : bsplit (!bsel true (Fd.found f) || bsel true (Fd.found f)) (bsplit (!bsel true (Fd.found f) || bsel true (Fd.found f)) (bsplit (!bsel true (Fd.found f) || bsel true (Fd.found f)) (bsplit (!bsel true (Fd.found f) || bsel true (Fd.found f)) (bsplit (!bsel true (Fd.found f) || bsel true (Fd.found f)) (bsplit (!bsel true (Fd.found f) || bsel true (Fd.found f)) (bsplit (!bsel true (Fd.found f)
 || bsel true (Fd.found f)) (bsplit (!bsel true (Fd.found f) || bsel true (Fd.found f)) (bsplit (!Fd.found f || bsel true (Fd.found f)) (bsplit (bif Fd.found f then leB (Fd.least f) (costU B us) else false) (True ∧ ∃ (z : SrS), ((SrS.f z = fromF A B k (fuel + 1) n us f ∧ headU us (SrS.st z)) ∧ True) ∧ (((64 = 64 ∧ 9 = 9 ∧ (((((((avM (slX 4 A) (slX 4 A) ∧ avM (slX 6 B) (slX 6 B)) ∧ IntKind.i64 = .i64 ∧ k = k) ∧ 3 = 3 ∧ 0 = 0 ∧ us.length = us.length) ∧ 2 = 2 ∧ 0 = 0 ∧ List.length B = List.length B) ∧ IntKind.i64 = .i64 ∧ costU B us = costU B us) ∧ Fd.found f = Fd.found (SrS.f z)) ∧ IntKind.i64 =
 .i64 ∧ Fd.least f = Fd.least (SrS.f z)) ∧ avM (slX 3 (Fd.best f)) (slX 3 (Fd.best (SrS.f z)))) ∧ True) ∧ 3 = 3 ∧ 1 = 1 ∧ List.length B = List.length B ∧ ∀ (i j : Nat), i < List.length B → j < 1 → IntKind.i64 = .i64 ∧ (↑(usedN us (i : Int)) : Int) = (↑(usedN us (i : Int)) : Int)) ∧ 50 = 50 ∧ 3 = 3 ∧ List.length (SrS.st z) = st.length ∧ ∀ (i j : Nat), i < st.length → j < 3 → avM (Enc.enc (List.getD st i u0) j) (Enc.enc (List.getD (SrS.st z) i u0) j)) (bsplit ((n : Int) == (↑(List.length A) : Int)) (bsplit (!bsel true (Fd.found f) || bsel true (Fd.found f)) (bsplit (!bsel true (Fd.found f) || bsel
 true (Fd.found f)) (bsplit (!bsel true (Fd.found f) || bsel true (Fd.found f)) (bsplit (!bsel true (Fd.found f) || bsel true (Fd.found f)) (bsplit (!bsel true (Fd.found f) || bsel true (Fd.found f)) (bsplit (!bsel true (Fd.found f) || bsel true (Fd.found f)) (bsplit (!bsel true (Fd.found f) || bsel true (Fd.found f)) (bsplit (!bsel true (Fd.found f) || bsel true (Fd.found f)) (bsplit (!Fd.found f || bsel true (Fd.found f)) (bsplit (bif Fd.found f then leB (Fd.least f) (costU B us) else false) (True ∧ ∃ (z : SrS), ((SrS.f z = fromF A B k (fuel + 1) n us f ∧ headU us (SrS.st z)) ∧ True) ∧ (((64 =
 64 ∧ 9 = 9 ∧ (((((((avM (slX 4 A) (slX 4 A) ∧ avM (slX 6 B) (slX 6 B)) ∧ IntKind.i64 = .i64 ∧ k = k) ∧ 3 = 3 ∧ 0 = 0 ∧ us.length = us.length) ∧ 2 = 2 ∧ 0 = 0 ∧ List.length B = List.length B) ∧ IntKind.i64 = .i64 ∧ costU B us = costU B us) ∧ Fd.found f = Fd.found (SrS.f z)) ∧ IntKind.i64 = .i64 ∧ Fd.least f = Fd.least (SrS.f z)) ∧ avM (slX 3 (Fd.best f)) (slX 3 (Fd.best (SrS.f z)))) ∧ True) ∧ 3 = 3 ∧ 1 = 1 ∧ List.length B = List.length B ∧ ∀ (i j : Nat), i < List.length B → j < 1 → IntKind.i64 = .i64 ∧ (↑(usedN us (i : Int)) : Int) = (↑(usedN us (i : Int)) : Int)) ∧ 50 = 50 ∧ 3 = 3 ∧ List.length
 (SrS.st z) = st.length ∧ ∀ (i j : Nat), i < st.length → j < 3 → avM (Enc.enc (List.getD st i u0) j) (Enc.enc (List.getD (SrS.st z) i u0) j)) ((∃ (z : Nat), (z ≤ us.length ∧ (0 = 0 ∧ 0 = 0) ∧ (1 = 1 ∧ 0 = 0 ∧ us.length = us.length) ∧ (IntKind.i64 = .i64 ∧ (us.length : Int) = (us.length : Int)) ∧ IntKind.i64 = .i64 ∧ (0 : Int) = (z : Int)) ∧ (((((64 = 64 ∧ 9 = 9 ∧ (((((((avM (slX 4 A) (slX 4 A) ∧ avM (slX 6 B) (slX 6 B)) ∧ IntKind.i64 = .i64 ∧ k = k) ∧ 1 = 1 ∧ 0 = 0 ∧ us.length = us.length) ∧ 2 = 2 ∧ 0 = 0 ∧ List.length B = List.length B) ∧ IntKind.i64 = .i64 ∧ costU B us = costU B us) ∧ true =
 Fd.found (Fd.mk true (costU B us) us)) ∧ IntKind.i64 = .i64 ∧ costU B us = Fd.least (Fd.mk true (costU B us) us)) ∧ some (Non Nat) = some (Non Nat) ∧ 0 = 0 ∧ z = 0) ∧ 50 = 50 ∧ 3 = 3 ∧ st.length = st.length ∧ ∀ (i j : Nat), i < st.length → j < 3 → avM (Enc.enc (List.getD st i u0) j) (Enc.enc (List.getD st i u0) j)) ∧ 3 = 3 ∧ 1 = 1 ∧ List.length B = List.length B ∧ ∀ (i j : Nat), i < List.length B → j < 1 → IntKind.i64 = .i64 ∧ (↑(usedN us (i : Int)) : Int) = (↑(usedN us (i : Int)) : Int)) ∧ 60 = 60 ∧ 1 = 1 ∧ 0 = 0 ∧ 0 = 0) ∧ 3 = 3 ∧ 1 = 1 ∧ IntKind.i64 = .i64 ∧ (n : Int) = (n : Int)) ∧ z = 0) ∧
 ∀ (z : Nat), z ≤ us.length → bsplit (ltB (z : Int) (us.length : Int)) (bsplit (DB.db ((0 : Int) ≤ (z : Int) ∧ (z : Int) < (us.length : Int))) (bsplit (DB.db (List.length (Used.ps (List.getD st (0 + Int.toNat (z : Int)) u0)) * 8 ≤ 140737488355328)) (bsplit (DB.db (List.length (Used.at_ (List.getD st (0 + Int.toNat (z : Int)) u0)) * 8 ≤ 140737488355328)) (bsplit (DB.db ((z + 1) * 56 ≤ 140737488355328)) (bsplit (DB.db (inK .i64 ((z : Int) + (1 : Int)))) (∃ (z' : Nat), ((z' ≤ us.length ∧ us.length - z' < us.length - z) ∧ (0 = 0 ∧ 0 = 0) ∧ (1 = 1 ∧ 0 = 0 ∧ us.length = us.length) ∧ (IntKind.i64 =
 .i64 ∧ (us.length : Int) = (us.length : Int)) ∧ IntKind.i64 = .i64 ∧ (z : Int) + (1 : Int) = (z' : Int)) ∧ (((((64 = 64 ∧ 9 = 9 ∧ (((((((avM (slX 4 A) (slX 4 A) ∧ avM (slX 6 B) (slX 6 B)) ∧ IntKind.i64 = .i64 ∧ k = k) ∧ 1 = 1 ∧ 0 = 0 ∧ us.length = us.length) ∧ 2 = 2 ∧ 0 = 0 ∧ List.length B = List.length B) ∧ IntKind.i64 = .i64 ∧ costU B us = costU B us) ∧ Fd.found (Fd.mk true (costU B us) us) = Fd.found (Fd.mk true (costU B us) us)) ∧ IntKind.i64 = .i64 ∧ Fd.least (Fd.mk true (costU B us) us) = Fd.least (Fd.mk true (costU B us) us)) ∧ 5 = 5 ∧ 0 = 0 ∧ z' = z + 1) ∧ 50 = 50 ∧ 3 = 3 ∧ st.length =
 st.length ∧ ∀ (i j : Nat), i < st.length → j < 3 → avM (Enc.enc (List.getD st i u0) j) (Enc.enc (List.getD st i u0) j)) ∧ 3 = 3 ∧ 1 = 1 ∧ List.length B = List.length B ∧ ∀ (i j : Nat), i < List.length B → j < 1 → IntKind.i64 = .i64 ∧ (↑(usedN us (i : Int)) : Int) = (↑(usedN us (i : Int)) : Int)) ∧ 60 = 60 ∧ 1 = 1 ∧ 0 = 0 ∧ 0 = 0) ∧ 3 = 3 ∧ 1 = 1 ∧ IntKind.i64 = .i64 ∧ (n : Int) = (n : Int)) ∧ (50 : TypeId) = 50 ∧ 3 = 3 ∧ z' = z + 1 ∧ ∀ (i j : Nat), i < z + 1 → j < 3 → avM (if i < z then Enc.enc (List.getD us i u0) j else Sx.rowAt [listFn [AV.v (Value.int .i64 (Used.bar (List.getD st (0 +
 Int.toNat (z : Int)) u0))), slN (Used.ps (List.getD st (0 + Int.toNat (z : Int)) u0)), slN (Used.at_ (List.getD st (0 + Int.toNat (z : Int)) u0))]] (i - z) j) (Enc.enc (List.getD us i u0) j)) False) False ∧ bsplit (DB.db ((z + 1) * 56 ≤ 140737488355328)) (bsplit (DB.db (inK .i64 ((z : Int) + (1 : Int)))) (∃ (z' : Nat), ((z' ≤ us.length ∧ us.length - z' < us.length - z) ∧ (0 = 0 ∧ 0 = 0) ∧ (1 = 1 ∧ 0 = 0 ∧ us.length = us.length) ∧ (IntKind.i64 = .i64 ∧ (us.length : Int) = (us.length : Int)) ∧ IntKind.i64 = .i64 ∧ (z : Int) + (1 : Int) = (z' : Int)) ∧ (((((64 = 64 ∧ 9 = 9 ∧ (((((((avM (slX 4 A)
 (slX 4 A) ∧ avM (slX 6 B) (slX 6 B)) ∧ IntKind.i64 = .i64 ∧ k = k) ∧ 1 = 1 ∧ 0 = 0 ∧ us.length = us.length) ∧ 2 = 2 ∧ 0 = 0 ∧ List.length B = List.length B) ∧ IntKind.i64 = .i64 ∧ costU B us = costU B us) ∧ Fd.found (Fd.mk true (costU B us) us) = Fd.found (Fd.mk true (costU B us) us)) ∧ IntKind.i64 = .i64 ∧ Fd.least (Fd.mk true (costU B us) us) = Fd.least (Fd.mk true (costU B us) us)) ∧ 5 = 5 ∧ 0 = 0 ∧ z' = z + 1) ∧ 50 = 50 ∧ 3 = 3 ∧ st.length = st.length ∧ ∀ (i j : Nat), i < st.length → j < 3 → avM (Enc.enc (List.getD st i u0) j) (Enc.enc (List.getD st i u0) j)) ∧ 3 = 3 ∧ 1 = 1 ∧ List.length B
 = List.length B ∧ ∀ (i j : Nat), i < List.length B → j < 1 → IntKind.i64 = .i64 ∧ (↑(usedN us (i : Int)) : Int) = (↑(usedN us (i : Int)) : Int)) ∧ 60 = 60 ∧ 1 = 1 ∧ 0 = 0 ∧ 0 = 0) ∧ 3 = 3 ∧ 1 = 1 ∧ IntKind.i64 = .i64 ∧ (n : Int) = (n : Int)) ∧ (50 : TypeId) = 50 ∧ 3 = 3 ∧ z' = z + 1 ∧ ∀ (i j : Nat), i < z + 1 → j < 3 → avM (if i < z then Enc.enc (List.getD us i u0) j else Sx.rowAt [listFn [AV.v (Value.int .i64 (Used.bar (List.getD st (0 + Int.toNat (z : Int)) u0))), slN (Used.ps (List.getD st (0 + Int.toNat (z : Int)) u0)), slN (Used.at_ (List.getD st (0 + Int.toNat (z : Int)) u0))]] (i - z) j)
 (Enc.enc (List.getD us i u0) j)) False) False) False) False) False) (True ∧ ∃ (z_1 : SrS), ((SrS.f z_1 = fromF A B k (fuel + 1) n us f ∧ headU us (SrS.st z_1)) ∧ True) ∧ (((64 = 64 ∧ 9 = 9 ∧ (((((((avM (slX 4 A) (slX 4 A) ∧ avM (slX 6 B) (slX 6 B)) ∧ IntKind.i64 = .i64 ∧ k = k) ∧ 3 = 3 ∧ 0 = 0 ∧ us.length = us.length) ∧ 2 = 2 ∧ 0 = 0 ∧ List.length B = List.length B) ∧ IntKind.i64 = .i64 ∧ costU B us = costU B us) ∧ Fd.found (Fd.mk true (costU B us) us) = Fd.found (SrS.f z_1)) ∧ IntKind.i64 = .i64 ∧ Fd.least (Fd.mk true (costU B us) us) = Fd.least (SrS.f z_1)) ∧ avM (AV.xl false 3 z fun i j =>
 Enc.enc (List.getD us (0 + i) u0) j) (slX 3 (Fd.best (SrS.f z_1)))) ∧ True) ∧ 3 = 3 ∧ 1 = 1 ∧ List.length B = List.length B ∧ ∀ (i j : Nat), i < List.length B → j < 1 → IntKind.i64 = .i64 ∧ (↑(usedN us (i : Int)) : Int) = (↑(usedN us (i : Int)) : Int)) ∧ 50 = 50 ∧ 3 = 3 ∧ List.length (SrS.st z_1) = st.length ∧ ∀ (i j : Nat), i < st.length → j < 3 → avM (Enc.enc (List.getD st i u0) j) (Enc.enc (List.getD (SrS.st z_1) i u0) j)))) False) False) False) False) False) False) False) False) False) (((∃ (z : Unit), (True ∧ (3 = 3 ∧ 0 = 0) ∧ (4 = 4 ∧ 0 = 0) ∧ (5 = 5 ∧ 0 = 0) ∧ Fn.func 79 = Fn.func 79 ∧ 0
 = 0 ∧ 2 = 2 ∧ True ∧ (6 = 6 ∧ 0 = 0) ∧ 7 = 7 ∧ 0 = 0) ∧ (((((((64 = 64 ∧ 9 = 9 ∧ (((((((avM (slX 4 A) (slX 4 A) ∧ avM (slX 6 B) (slX 6 B)) ∧ IntKind.i64 = .i64 ∧ k = k) ∧ 1 = 1 ∧ 0 = 0 ∧ us.length = us.length) ∧ 2 = 2 ∧ 0 = 0 ∧ List.length B = List.length B) ∧ IntKind.i64 = .i64 ∧ costU B us = costU B us) ∧ Fd.found f = Fd.found f) ∧ IntKind.i64 = .i64 ∧ Fd.least f = Fd.least f) ∧ avM (slX 3 (Fd.best f)) (slX 3 (Fd.best f))) ∧ 50 = 50 ∧ 3 = 3 ∧ st.length = st.length ∧ ∀ (i j : Nat), i < st.length → j < 3 → avM (Enc.enc (List.getD st i u0) j) (Enc.enc (List.getD st i u0) j)) ∧ 3 = 3 ∧ 1 = 1 ∧
 List.length B = List.length B ∧ ∀ (i j : Nat), i < List.length B → j < 1 → IntKind.i64 = .i64 ∧ (↑(usedN us (i : Int)) : Int) = (↑(usedN us (i : Int)) : Int)) ∧ (60 : TypeId) = 60 ∧ 1 = 1 ∧ 0 = 0 ∧ 0 = 0) ∧ (3 : TypeId) = 3 ∧ 1 = 1 ∧ IntKind.i64 = .i64 ∧ (n : Int) = (n : Int)) ∧ (65 : TypeId) = 65 ∧ 1 = 1 ∧ avM (AV.fn (Fn.func 33) 1 (fun (i : Nat) => Option.getD [AV.np 0 0][i]? AV.junk) 0 fun (i : Nat) => AV.junk) (AV.fn (Fn.func (33 : FuncId)) 1 (fun (x : Nat) => AV.np 0 0) 0 fun (x : Nat) => AV.junk)) ∧ (73 : TypeId) = 73 ∧ 1 = 1 ∧ 0 = 0 ∧ 0 = 0) ∧ (3 : TypeId) = 3 ∧ 1 = 1 ∧ IntKind.i64 =
 .i64 ∧ (n : Int) = (n : Int)) ∧ ∀ (z : Unit), True → (∃ (z : LoS), ((LoS.i z ≤ us.length ∧ LoS.f z = addF A B k fuel n us f (LoS.i z) ∧ headU us (LoS.st z)) ∧ 8 = 8 ∧ (6 = 6 ∧ 0 = 0) ∧ (7 = 7 ∧ 0 = 0) ∧ (IntKind.i64 = .i64 ∧ (us.length : Int) = (us.length : Int)) ∧ IntKind.i64 = .i64 ∧ (0 : Int) = (↑(LoS.i z) : Int)) ∧ (((((((((64 = 64 ∧ 9 = 9 ∧ (((((((avM (slX 4 A) (slX 4 A) ∧ avM (slX 6 B) (slX 6 B)) ∧ IntKind.i64 = .i64 ∧ k = k) ∧ 9 = 9 ∧ 0 = 0 ∧ us.length = us.length) ∧ 2 = 2 ∧ 0 = 0 ∧ List.length B = List.length B) ∧ IntKind.i64 = .i64 ∧ costU B us = costU B us) ∧ Fd.found f = Fd.found
 (LoS.f z)) ∧ IntKind.i64 = .i64 ∧ Fd.least f = Fd.least (LoS.f z)) ∧ avM (slX 3 (Fd.best f)) (slX 3 (Fd.best (LoS.f z)))) ∧ True) ∧ 3 = 3 ∧ 1 = 1 ∧ List.length B = List.length B ∧ ∀ (i j : Nat), i < List.length B → j < 1 → IntKind.i64 = .i64 ∧ (↑(usedN us (i : Int)) : Int) = (↑(usedN us (i : Int)) : Int)) ∧ 60 = 60 ∧ 1 = 1 ∧ 0 = 0 ∧ 0 = 0) ∧ 3 = 3 ∧ 1 = 1 ∧ IntKind.i64 = .i64 ∧ (n : Int) = (n : Int)) ∧ 65 = 65 ∧ 1 = 1 ∧ avM (AV.fn (Fn.func (33 : FuncId)) 1 (fun (x : Nat) => AV.np 0 0) 0 fun (x : Nat) => AV.junk) (AV.fn (Fn.func (33 : FuncId)) 1 (fun (x : Nat) => AV.np 0 0) 0 fun (x : Nat) =>
 AV.junk)) ∧ 73 = 73 ∧ 1 = 1 ∧ 0 = 0 ∧ 0 = 0) ∧ 3 = 3 ∧ 1 = 1 ∧ IntKind.i64 = .i64 ∧ (n : Int) = (n : Int)) ∧ LoopState.ready = LoopState.ready ∧ Non Code = Non Code) ∧ 50 = 50 ∧ 3 = 3 ∧ List.length (LoS.st z) = st.length ∧ ∀ (i j : Nat), i < st.length → j < 3 → avM (Enc.enc (List.getD st i u0) j) (Enc.enc (List.getD (LoS.st z) i u0) j)) ∧ ∀ (z : LoS), LoS.i z ≤ us.length ∧ LoS.f z = addF A B k fuel n us f (LoS.i z) ∧ headU us (LoS.st z) → bsplit (ltB (↑(LoS.i z) : Int) (us.length : Int)) (bsplit (DB.db ((0 : Int) ≤ (↑(LoS.i z) : Int) ∧ (↑(LoS.i z) : Int) < (us.length : Int))) (∃ (z_1 : Used),
 (z_1 = List.getD us (Int.toNat (AV.int (AV.v (Value.int .i64 (↑(LoS.i z) : Int))))) u0 ∧ 8 = 8 ∧ (6 = 6 ∧ 0 = 0) ∧ (7 = 7 ∧ 0 = 0) ∧ (IntKind.i64 = .i64 ∧ (us.length : Int) = (us.length : Int)) ∧ (IntKind.i64 = .i64 ∧ (↑(LoS.i z) : Int) = (↑(LoS.i z) : Int)) ∧ (IntKind.i64 = .i64 ∧ (↑(LoS.i z) : Int) = (↑(LoS.i z) : Int)) ∧ 10 = 10 ∧ 0 = 0) ∧ ((((((((((64 = 64 ∧ 9 = 9 ∧ (((((((avM (slX 4 A) (slX 4 A) ∧ avM (slX 6 B) (slX 6 B)) ∧ IntKind.i64 = .i64 ∧ k = k) ∧ 9 = 9 ∧ 0 = 0 ∧ us.length = us.length) ∧ 2 = 2 ∧ 0 = 0 ∧ List.length B = List.length B) ∧ IntKind.i64 = .i64 ∧ costU B us = costU B us) ∧
 Fd.found (LoS.f z) = Fd.found (LoS.f z)) ∧ IntKind.i64 = .i64 ∧ Fd.least (LoS.f z) = Fd.least (LoS.f z)) ∧ avM (slX 3 (Fd.best (LoS.f z))) (slX 3 (Fd.best (LoS.f z)))) ∧ True) ∧ 3 = 3 ∧ 1 = 1 ∧ List.length B = List.length B ∧ ∀ (i j : Nat), i < List.length B → j < 1 → IntKind.i64 = .i64 ∧ (↑(usedN us (i : Int)) : Int) = (↑(usedN us (i : Int)) : Int)) ∧ 60 = 60 ∧ 1 = 1 ∧ 0 = 0 ∧ 0 = 0) ∧ 3 = 3 ∧ 1 = 1 ∧ IntKind.i64 = .i64 ∧ (n : Int) = (n : Int)) ∧ 65 = 65 ∧ 1 = 1 ∧ avM (AV.fn (Fn.func (33 : FuncId)) 1 (fun (x : Nat) => AV.np 0 0) 0 fun (x : Nat) => AV.junk) (AV.fn (Fn.func (33 : FuncId)) 1 (fun
 (x : Nat) => AV.np 0 0) 0 fun (x : Nat) => AV.junk)) ∧ 73 = 73 ∧ 1 = 1 ∧ 0 = 0 ∧ 0 = 0) ∧ 3 = 3 ∧ 1 = 1 ∧ IntKind.i64 = .i64 ∧ (n : Int) = (n : Int)) ∧ LoopState.ready = LoopState.ready ∧ Non Code = Non Code) ∧ 50 = 50 ∧ 3 = 3 ∧ List.length (LoS.st z) = List.length (LoS.st z) ∧ ∀ (i j : Nat), i < List.length (LoS.st z) → j < 3 → avM (Enc.enc (List.getD (LoS.st z) i u0) j) (Enc.enc (List.getD (LoS.st z) i u0) j)) ∧ (50 : TypeId) = 50 ∧ 3 = 3 ∧ ((IntKind.i64 = .i64 ∧ Used.bar (List.getD (LoS.st z) (0 + Int.toNat (↑(LoS.i z) : Int)) u0) = Used.bar z_1) ∧ avM (slN (Used.ps (List.getD (LoS.st z) (0
 + Int.toNat (↑(LoS.i z) : Int)) u0))) (slN (Used.ps z_1))) ∧ avM (slN (Used.at_ (List.getD (LoS.st z) (0 + Int.toNat (↑(LoS.i z) : Int)) u0))) (slN (Used.at_ z_1))) False ∧ ∀ (z_1 : Used), z_1 = List.getD us (Int.toNat (AV.int (AV.v (Value.int .i64 (↑(LoS.i z) : Int))))) u0 → bsplit (DB.db ((0 : Int) ≤ (n : Int) ∧ (n : Int) < (↑(List.length A) : Int))) (bsplit (DB.db ((0 : Int) ≤ Used.bar z_1 ∧ Used.bar z_1 < (↑(List.length B) : Int))) (bsplit (agOk Cut (AV.agg 4 fun (i : Nat) => Enc.enc (List.getD A (Int.toNat (n : Int)) Enc.dflt) (0 + i))) (bsplit (agOk Bar (AV.agg 6 fun (i : Nat) => Enc.enc
 (List.getD B (Int.toNat (Used.bar z_1)) Enc.dflt) (0 + i))) (bsplit (!sectB (agD (AV.agg 4 fun (i : Nat) => Enc.enc (List.getD A (Int.toNat (n : Int)) Enc.dflt) (0 + i))) (agD (AV.agg 6 fun (i : Nat) => Enc.enc (List.getD B (Int.toNat (Used.bar z_1)) Enc.dflt) (0 + i)))) (bsplit (DB.db (inK .i64 ((↑(LoS.i z) : Int) + (1 : Int)))) (∃ (z' : LoS), (((LoS.i z' ≤ us.length ∧ LoS.f z' = addF A B k fuel n us f (LoS.i z') ∧ headU us (LoS.st z')) ∧ us.length - LoS.i z' < us.length - LoS.i z) ∧ 8 = 8 ∧ (6 = 6 ∧ 0 = 0) ∧ (7 = 7 ∧ 0 = 0) ∧ (IntKind.i64 = .i64 ∧ (us.length : Int) = (us.length : Int)) ∧
 IntKind.i64 = .i64 ∧ (↑(LoS.i z) : Int) + (1 : Int) = (↑(LoS.i z') : Int)) ∧ (((((((((64 = 64 ∧ 9 = 9 ∧ (((((((avM (slX 4 A) (slX 4 A) ∧ avM (slX 6 B) (slX 6 B)) ∧ IntKind.i64 = .i64 ∧ k = k) ∧ 9 = 9 ∧ 0 = 0 ∧ us.length = us.length) ∧ 2 = 2 ∧ 0 = 0 ∧ List.length B = List.length B) ∧ IntKind.i64 = .i64 ∧ costU B us = costU B us) ∧ Fd.found (LoS.f z) = Fd.found (LoS.f z')) ∧ IntKind.i64 = .i64 ∧ Fd.least (LoS.f z) = Fd.least (LoS.f z')) ∧ avM (slX 3 (Fd.best (LoS.f z))) (slX 3 (Fd.best (LoS.f z')))) ∧ True) ∧ 3 = 3 ∧ 1 = 1 ∧ List.length B = List.length B ∧ ∀ (i j : Nat), i < List.length B → j < 1
 → IntKind.i64 = .i64 ∧ (↑(usedN us (i : Int)) : Int) = (↑(usedN us (i : Int)) : Int)) ∧ 60 = 60 ∧ 1 = 1 ∧ 0 = 0 ∧ 0 = 0) ∧ 3 = 3 ∧ 1 = 1 ∧ IntKind.i64 = .i64 ∧ (n : Int) = (n : Int)) ∧ 65 = 65 ∧ 1 = 1 ∧ avM (AV.fn (Fn.func (33 : FuncId)) 1 (fun (x : Nat) => AV.np 0 0) 0 fun (x : Nat) => AV.junk) (AV.fn (Fn.func (33 : FuncId)) 1 (fun (x : Nat) => AV.np 0 0) 0 fun (x : Nat) => AV.junk)) ∧ 73 = 73 ∧ 1 = 1 ∧ 0 = 0 ∧ 0 = 0) ∧ 3 = 3 ∧ 1 = 1 ∧ IntKind.i64 = .i64 ∧ (n : Int) = (n : Int)) ∧ LoopState.ready = LoopState.ready ∧ Non Code = Non Code) ∧ 50 = 50 ∧ 3 = 3 ∧ List.length (LoS.st z') = List.length
 (LoS.st z) ∧ ∀ (i j : Nat), i < List.length (LoS.st z) → j < 3 → avM (Enc.enc (List.getD (LoS.st z) i u0) j) (Enc.enc (List.getD (LoS.st z') i u0) j)) False) (bsplit (DB.db ((0 : Int) ≤ Used.bar z_1 ∧ Used.bar z_1 < (↑(List.length B) : Int))) (bsplit (DB.db (List.length (Used.ps z_1) * 8 ≤ 140737488355328)) (bsplit (DB.db ((List.length (Used.ps z_1) + 1) * 8 ≤ 140737488355328)) (bsplit (slOk Cut (slX 4 A)) (bsplit (agOk Bar (AV.agg 6 (listFn [AV.v (Value.int .i64 (Bar.w (List.getD B (Int.toNat (Used.bar z_1)) Enc.dflt))), AV.v (Value.int .i64 (Bar.d (List.getD B (Int.toNat (Used.bar z_1))
 Enc.dflt))), AV.v (Value.int .i64 (Bar.l (List.getD B (Int.toNat (Used.bar z_1)) Enc.dflt))), AV.v (Value.int .i64 (Bar.n (List.getD B (Int.toNat (Used.bar z_1)) Enc.dflt))), AV.v (Value.int .i64 (Bar.c (List.getD B (Int.toNat (Used.bar z_1)) Enc.dflt))), slX 2 (Bar.gs (List.getD B (Int.toNat (Used.bar z_1)) Enc.dflt))]))) (bsplit (slOk Int (AV.xl false 1 (List.length (Used.ps z_1) + 1) fun i j => if 0 + i < List.length (Used.ps z_1) then AV.v (Value.int .i64 (List.getD (Used.ps z_1) (0 + i) Enc.dflt)) else Sx.rowAt [fun (x : Nat) => AV.v (Value.int .i64 (n : Int))] (0 + i - List.length
 (Used.ps z_1)) j)) (bsplit (inL (slD (slX 4 A)) (slD (AV.xl false 1 (List.length (Used.ps z_1) + 1) fun i j => if 0 + i < List.length (Used.ps z_1) then AV.v (Value.int .i64 (List.getD (Used.ps z_1) (0 + i) Enc.dflt)) else Sx.rowAt [fun (x : Nat) => AV.v (Value.int .i64 (n : Int))] (0 + i - List.length (Used.ps z_1)) j)) && Nat.blt (List.length (intsOf (AV.xl false 1 (List.length (Used.ps z_1) + 1) fun i j => if 0 + i < List.length (Used.ps z_1) then AV.v (Value.int .i64 (List.getD (Used.ps z_1) (0 + i) Enc.dflt)) else Sx.rowAt [fun (x : Nat) => AV.v (Value.int .i64 (n : Int))] (0 + i -
 List.length (Used.ps z_1)) j))) 1000000000) (∃ (z_2 : AtS), (plusU A B k (List.getD us (Int.toNat (AV.int (AV.v (Value.int .i64 (↑(LoS.i z) : Int))))) u0) n z_2 ∧ 8 = 8 ∧ (6 = 6 ∧ 0 = 0) ∧ (7 = 7 ∧ 0 = 0) ∧ (IntKind.i64 = .i64 ∧ (us.length : Int) = (us.length : Int)) ∧ (IntKind.i64 = .i64 ∧ (↑(LoS.i z) : Int) = (↑(LoS.i z) : Int)) ∧ (IntKind.i64 = .i64 ∧ (↑(LoS.i z) : Int) = (↑(LoS.i z) : Int)) ∧ avM (AV.xl false 1 (List.length (fitsAt (agD (AV.agg 6 (listFn [AV.v (Value.int .i64 (Bar.w (List.getD B (Int.toNat (Used.bar z_1)) Enc.dflt))), AV.v (Value.int .i64 (Bar.d (List.getD B (Int.toNat
 (Used.bar z_1)) Enc.dflt))), AV.v (Value.int .i64 (Bar.l (List.getD B (Int.toNat (Used.bar z_1)) Enc.dflt))), AV.v (Value.int .i64 (Bar.n (List.getD B (Int.toNat (Used.bar z_1)) Enc.dflt))), AV.v (Value.int .i64 (Bar.c (List.getD B (Int.toNat (Used.bar z_1)) Enc.dflt))), slX 2 (Bar.gs (List.getD B (Int.toNat (Used.bar z_1)) Enc.dflt))]))) (lensL (slD (slX 4 A)) (slD (AV.xl false 1 (List.length (Used.ps z_1) + 1) fun i j => if 0 + i < List.length (Used.ps z_1) then AV.v (Value.int .i64 (List.getD (Used.ps z_1) (0 + i) Enc.dflt)) else Sx.rowAt [fun (x : Nat) => AV.v (Value.int .i64 (n : Int))] (0
 + i - List.length (Used.ps z_1)) j))) k)) fun i j => AV.v (Value.int .i64 (List.getD (fitsAt (agD (AV.agg 6 (listFn [AV.v (Value.int .i64 (Bar.w (List.getD B (Int.toNat (Used.bar z_1)) Enc.dflt))), AV.v (Value.int .i64 (Bar.d (List.getD B (Int.toNat (Used.bar z_1)) Enc.dflt))), AV.v (Value.int .i64 (Bar.l (List.getD B (Int.toNat (Used.bar z_1)) Enc.dflt))), AV.v (Value.int .i64 (Bar.n (List.getD B (Int.toNat (Used.bar z_1)) Enc.dflt))), AV.v (Value.int .i64 (Bar.c (List.getD B (Int.toNat (Used.bar z_1)) Enc.dflt))), AV.xl false 2 (List.length (Bar.gs (List.getD B (Int.toNat (Used.bar z_1))
 Enc.dflt))) fun i j => Enc.enc (List.getD (Bar.gs (List.getD B (Int.toNat (Used.bar z_1)) Enc.dflt)) i Enc.dflt) j]))) (lensL (slD (slX 4 A)) (slD (AV.xl false 1 (List.length (Used.ps z_1) + 1) fun i j => if 0 + i < List.length (Used.ps z_1) then AV.v (Value.int .i64 (List.getD (Used.ps z_1) (0 + i) Enc.dflt)) else Sx.rowAt [fun (x : Nat) => AV.v (Value.int .i64 (n : Int))] (0 + i - List.length (Used.ps z_1)) j))) k) i Enc.dflt))) (slN (AtS.at_ z_2)) ∧ fitsOk (agD (AV.agg 6 (listFn [AV.v (Value.int .i64 (Bar.w (List.getD B (Int.toNat (Used.bar z_1)) Enc.dflt))), AV.v (Value.int .i64 (Bar.d
 (List.getD B (Int.toNat (Used.bar z_1)) Enc.dflt))), AV.v (Value.int .i64 (Bar.l (List.getD B (Int.toNat (Used.bar z_1)) Enc.dflt))), AV.v (Value.int .i64 (Bar.n (List.getD B (Int.toNat (Used.bar z_1)) Enc.dflt))), AV.v (Value.int .i64 (Bar.c (List.getD B (Int.toNat (Used.bar z_1)) Enc.dflt))), slX 2 (Bar.gs (List.getD B (Int.toNat (Used.bar z_1)) Enc.dflt))]))) (lensL (slD (slX 4 A)) (slD (AV.xl false 1 (List.length (Used.ps z_1) + 1) fun i j => if 0 + i < List.length (Used.ps z_1) then AV.v (Value.int .i64 (List.getD (Used.ps z_1) (0 + i) Enc.dflt)) else Sx.rowAt [fun (x : Nat) => AV.v
 (Value.int .i64 (n : Int))] (0 + i - List.length (Used.ps z_1)) j))) k = AtS.is z_2) ∧ ((((((((((64 = 64 ∧ 9 = 9 ∧ (((((((avM (AV.xl false 4 (List.length A) fun i j => Enc.enc (List.getD A i Enc.dflt) j) (AV.xl false 4 (List.length A) fun i j => Enc.enc (List.getD A i Enc.dflt) j) ∧ avM (AV.xl false 6 (List.length B) fun i j => Enc.enc (List.getD B i Enc.dflt) j) (AV.xl false 6 (List.length B) fun i j => Enc.enc (List.getD B i Enc.dflt) j)) ∧ IntKind.i64 = .i64 ∧ k = k) ∧ 9 = 9 ∧ 0 = 0 ∧ us.length = us.length) ∧ 2 = 2 ∧ 0 = 0 ∧ List.length B = List.length B) ∧ IntKind.i64 = .i64 ∧ costU B us =
 costU B us) ∧ Fd.found (LoS.f z) = Fd.found (LoS.f z)) ∧ IntKind.i64 = .i64 ∧ Fd.least (LoS.f z) = Fd.least (LoS.f z)) ∧ avM (slX 3 (Fd.best (LoS.f z))) (slX 3 (Fd.best (LoS.f z)))) ∧ True) ∧ 3 = 3 ∧ 1 = 1 ∧ List.length B = List.length B ∧ ∀ (i j : Nat), i < List.length B → j < 1 → IntKind.i64 = .i64 ∧ (↑(usedN us (i : Int)) : Int) = (↑(usedN us (i : Int)) : Int)) ∧ 60 = 60 ∧ 1 = 1 ∧ 0 = 0 ∧ 0 = 0) ∧ 3 = 3 ∧ 1 = 1 ∧ IntKind.i64 = .i64 ∧ (n : Int) = (n : Int)) ∧ 65 = 65 ∧ 1 = 1 ∧ avM (AV.fn (Fn.func (33 : FuncId)) 1 (fun (i : Nat) => AV.np 0 0) 0 fun (i : Nat) => AV.junk) (AV.fn (Fn.func (33 :
 FuncId)) 1 (fun (x : Nat) => AV.np 0 0) 0 fun (x : Nat) => AV.junk)) ∧ 73 = 73 ∧ 1 = 1 ∧ 0 = 0 ∧ 0 = 0) ∧ 3 = 3 ∧ 1 = 1 ∧ IntKind.i64 = .i64 ∧ (n : Int) = (n : Int)) ∧ LoopState.ready = LoopState.ready ∧ Non Code = Non Code) ∧ 50 = 50 ∧ 3 = 3 ∧ List.length (LoS.st z) = List.length (LoS.st z) ∧ ∀ (i j : Nat), i < List.length (LoS.st z) → j < 3 → avM (Enc.enc (List.getD (LoS.st z) i u0) j) (Enc.enc (List.getD (LoS.st z) i u0) j)) ∧ 50 = 50 ∧ 3 = 3 ∧ ((IntKind.i64 = .i64 ∧ Used.bar z_1 = Used.bar z_1) ∧ avM (slN (Used.ps z_1)) (slN (Used.ps z_1))) ∧ avM (slN (Used.at_ z_1)) (slN (Used.at_ z_1)))
 False) False) False) False) False) False) False ∧ ∀ (z_2 : AtS), plusU A B k (List.getD us (Int.toNat (AV.int (AV.v (Value.int .i64 (↑(LoS.i z) : Int))))) u0) n z_2 → bsplit (AtS.is z_2) (bsplit (DB.db ((0 : Int) ≤ (↑(LoS.i z) : Int) ∧ (↑(LoS.i z) : Int) < (us.length : Int))) (∃ (z_3 : Used), (z_3 = List.getD us (Int.toNat (AV.int (AV.v (Value.int .i64 (↑(LoS.i z) : Int))))) u0 ∧ (3 = 3 ∧ 0 = 0) ∧ (4 = 4 ∧ 0 = 0) ∧ (5 = 5 ∧ 0 = 0) ∧ (IntKind.i64 = .i64 ∧ (↑(LoS.i z) : Int) = (↑(LoS.i z) : Int)) ∧ avM (slN (AtS.at_ z_2)) (slN (AtS.at_ z_2)) ∧ 11 = 11 ∧ 0 = 0) ∧ (((((((((((64 = 64 ∧ 9 = 9 ∧
 (((((((avM (AV.xl false 4 (List.length A) fun i j => Enc.enc (List.getD A i Enc.dflt) j) (AV.xl false 4 (List.length A) fun i j => Enc.enc (List.getD A i Enc.dflt) j) ∧ avM (AV.xl false 6 (List.length B) fun i j => Enc.enc (List.getD B i Enc.dflt) j) (AV.xl false 6 (List.length B) fun i j => Enc.enc (List.getD B i Enc.dflt) j)) ∧ IntKind.i64 = .i64 ∧ k = k) ∧ 9 = 9 ∧ 0 = 0 ∧ us.length = us.length) ∧ 2 = 2 ∧ 0 = 0 ∧ List.length B = List.length B) ∧ IntKind.i64 = .i64 ∧ costU B us = costU B us) ∧ Fd.found (LoS.f z) = Fd.found (LoS.f z)) ∧ IntKind.i64 = .i64 ∧ Fd.least (LoS.f z) = Fd.least (LoS.f
 z)) ∧ avM (slX 3 (Fd.best (LoS.f z))) (slX 3 (Fd.best (LoS.f z)))) ∧ True) ∧ 3 = 3 ∧ 1 = 1 ∧ List.length B = List.length B ∧ ∀ (i j : Nat), i < List.length B → j < 1 → IntKind.i64 = .i64 ∧ (↑(usedN us (i : Int)) : Int) = (↑(usedN us (i : Int)) : Int)) ∧ 60 = 60 ∧ 1 = 1 ∧ 0 = 0 ∧ 0 = 0) ∧ 3 = 3 ∧ 1 = 1 ∧ IntKind.i64 = .i64 ∧ (n : Int) = (n : Int)) ∧ 65 = 65 ∧ 1 = 1 ∧ avM (AV.fn (Fn.func (33 : FuncId)) 1 (fun (x : Nat) => AV.np 0 0) 0 fun (x : Nat) => AV.junk) (AV.fn (Fn.func (33 : FuncId)) 1 (fun (x : Nat) => AV.np 0 0) 0 fun (x : Nat) => AV.junk)) ∧ 73 = 73 ∧ 1 = 1 ∧ 0 = 0 ∧ 0 = 0) ∧ 3 = 3 ∧ 1
 = 1 ∧ IntKind.i64 = .i64 ∧ (n : Int) = (n : Int)) ∧ LoopState.busy = LoopState.busy ∧ Non Code = Non Code) ∧ 50 = 50 ∧ 3 = 3 ∧ List.length (LoS.st z) = List.length (LoS.st z) ∧ ∀ (i j : Nat), i < List.length (LoS.st z) → j < 3 → avM (Enc.enc (List.getD (LoS.st z) i u0) j) (Enc.enc (List.getD (LoS.st z) i u0) j)) ∧ 50 = 50 ∧ 3 = 3 ∧ ((IntKind.i64 = .i64 ∧ Used.bar z_1 = Used.bar z_1) ∧ avM (slN (Used.ps z_1)) (slN (Used.ps z_1))) ∧ avM (slN (Used.at_ z_1)) (slN (Used.at_ z_1))) ∧ (50 : TypeId) = 50 ∧ 3 = 3 ∧ ((IntKind.i64 = .i64 ∧ Used.bar (List.getD (LoS.st z) (0 + Int.toNat (↑(LoS.i z) : Int))
 u0) = Used.bar z_3) ∧ avM (slN (Used.ps (List.getD (LoS.st z) (0 + Int.toNat (↑(LoS.i z) : Int)) u0))) (slN (Used.ps z_3))) ∧ avM (slN (Used.at_ (List.getD (LoS.st z) (0 + Int.toNat (↑(LoS.i z) : Int)) u0))) (slN (Used.at_ z_3))) False ∧ ∀ (z_3 : Used), z_3 = List.getD us (Int.toNat (AV.int (AV.v (Value.int .i64 (↑(LoS.i z) : Int))))) u0 → bsplit (DB.db (List.length (Used.ps z_3) * 8 ≤ 140737488355328)) (bsplit (DB.db ((List.length (Used.ps z_3) + 1) * 8 ≤ 140737488355328)) (bsplit (DB.db ((0 : Int) ≤ (↑(LoS.i z) : Int) ∧ (↑(LoS.i z) : Int) < (us.length : Int))) (∃ (z_4 : List Used), (headU
 (List.set us (Int.toNat (AV.int (AV.v (Value.int .i64 (↑(LoS.i z) : Int))))) (putU us (Int.toNat (AV.int (AV.v (Value.int .i64 (↑(LoS.i z) : Int))))) n (intsOf (slN (AtS.at_ z_2))))) z_4 ∧ (3 = 3 ∧ 0 = 0) ∧ (4 = 4 ∧ 0 = 0) ∧ (5 = 5 ∧ 0 = 0) ∧ (IntKind.i64 = .i64 ∧ (↑(LoS.i z) : Int) = (↑(LoS.i z) : Int)) ∧ 11 = 11 ∧ 0 = 0) ∧ (((((((((((64 = 64 ∧ 9 = 9 ∧ (((((((avM (AV.xl false 4 (List.length A) fun i j => Enc.enc (List.getD A i Enc.dflt) j) (AV.xl false 4 (List.length A) fun i j => Enc.enc (List.getD A i Enc.dflt) j) ∧ avM (AV.xl false 6 (List.length B) fun i j => Enc.enc (List.getD B i
 Enc.dflt) j) (AV.xl false 6 (List.length B) fun i j => Enc.enc (List.getD B i Enc.dflt) j)) ∧ IntKind.i64 = .i64 ∧ k = k) ∧ 9 = 9 ∧ 0 = 0 ∧ us.length = us.length) ∧ 2 = 2 ∧ 0 = 0 ∧ List.length B = List.length B) ∧ IntKind.i64 = .i64 ∧ costU B us = costU B us) ∧ Fd.found (LoS.f z) = Fd.found (LoS.f z)) ∧ IntKind.i64 = .i64 ∧ Fd.least (LoS.f z) = Fd.least (LoS.f z)) ∧ avM (AV.xl false 3 (List.length (Fd.best (LoS.f z))) fun i j => Enc.enc (List.getD (Fd.best (LoS.f z)) i Enc.dflt) j) (AV.xl false 3 (List.length (Fd.best (LoS.f z))) fun i j => Enc.enc (List.getD (Fd.best (LoS.f z)) i Enc.dflt) j))
 ∧ True) ∧ 3 = 3 ∧ 1 = 1 ∧ List.length B = List.length B ∧ ∀ (i j : Nat), i < List.length B → j < 1 → IntKind.i64 = .i64 ∧ (↑(usedN us (i : Int)) : Int) = (↑(usedN us (i : Int)) : Int)) ∧ 60 = 60 ∧ 1 = 1 ∧ 0 = 0 ∧ 0 = 0) ∧ 3 = 3 ∧ 1 = 1 ∧ IntKind.i64 = .i64 ∧ (n : Int) = (n : Int)) ∧ 65 = 65 ∧ 1 = 1 ∧ avM (AV.fn (Fn.func (33 : FuncId)) 1 (fun (i : Nat) => AV.np 0 0) 0 fun (i : Nat) => AV.junk) (AV.fn (Fn.func (33 : FuncId)) 1 (fun (x : Nat) => AV.np 0 0) 0 fun (x : Nat) => AV.junk)) ∧ 73 = 73 ∧ 1 = 1 ∧ 0 = 0 ∧ 0 = 0) ∧ 3 = 3 ∧ 1 = 1 ∧ IntKind.i64 = .i64 ∧ (n : Int) = (n : Int)) ∧ LoopState.busy
 = LoopState.busy ∧ Non Code = Non Code) ∧ 50 = 50 ∧ 3 = 3 ∧ List.length z_4 = List.length (LoS.st z) ∧ ∀ (i j : Nat), i < List.length (LoS.st z) → j < 3 → avM (if i = 0 + Int.toNat (↑(LoS.i z) : Int) ∧ 0 ≤ j ∧ j < 3 then listFn [AV.v (Value.int .i64 (Used.bar z_3)), AV.xl false 1 (List.length (Used.ps z_3) + 1) fun i j => if 0 + i < List.length (Used.ps z_3) then AV.v (Value.int .i64 (List.getD (Used.ps z_3) (0 + i) Enc.dflt)) else Sx.rowAt [fun (x : Nat) => AV.v (Value.int .i64 (n : Int))] (0 + i - List.length (Used.ps z_3)) j, slN (AtS.at_ z_2)] (j - 0) else Enc.enc (List.getD (LoS.st z) i
 u0) j) (Enc.enc (List.getD z_4 i u0) j)) ∧ 50 = 50 ∧ 3 = 3 ∧ ((IntKind.i64 = .i64 ∧ Used.bar z_1 = Used.bar z_1) ∧ avM (slN (Used.ps z_1)) (slN (Used.ps z_1))) ∧ avM (slN (Used.at_ z_1)) (slN (Used.at_ z_1))) ∧ 50 = 50 ∧ 3 = 3 ∧ ((IntKind.i64 = .i64 ∧ Used.bar z_3 = Used.bar z_3) ∧ avM (slN (Used.ps z_3)) (slN (Used.ps z_3))) ∧ avM (slN (Used.at_ z_3)) (slN (Used.at_ z_3))) False) False) False ∧ ∀ (z_4 : List Used), headU (List.set us (Int.toNat (AV.int (AV.v (Value.int .i64 (↑(LoS.i z) : Int))))) (putU us (Int.toNat (AV.int (AV.v (Value.int .i64 (↑(LoS.i z) : Int))))) n (intsOf (slN (AtS.at_
 z_2))))) z_4 → bsplit (DB.db (inK .i64 ((n : Int) + (1 : Int)))) (∃ (us_1 : List Used), ∃ (st : List Used), ∃ (f_1 : Fd), (Wk [slX 4 A, slX 6 B, AV.v (Value.int .i64 k), AV.v (Value.int .i64 (costU B us)), AV.v (Value.bool (Fd.found (LoS.f z))), AV.v (Value.int .i64 (Fd.least (LoS.f z))), slX 3 (Fd.best (LoS.f z))] [slX 4 A, slX 6 B, AV.v (Value.int .i64 k), AV.v (Value.int .i64 (costU B us_1)), AV.v (Value.bool (Fd.found f_1)), AV.v (Value.int .i64 (Fd.least f_1)), slX 3 (Fd.best f_1)] ∧ (us.length = List.length us_1 ∧ List.length B = List.length B ∧ headU us_1 st) ∧ ToldU (List.length z_4)
 (fun i j => Enc.enc (List.getD z_4 i u0) j) st ∧ ToldT (List.length B) (fun (j x : Nat) => AV.v (Value.int .i64 (↑(usedN us (j : Int)) : Int))) B us_1 ∧ Fit A B fuel ((n : Int) + (1 : Int)) us_1) ∧ ∀ (f' : Fd) (st' : List Used), f' = fromF A B k fuel (Int.toNat ((n : Int) + (1 : Int))) us_1 f_1 ∧ headU us_1 st' → bsplit (DB.db ((0 : Int) ≤ (↑(LoS.i z) : Int) ∧ (↑(LoS.i z) : Int) < (↑(List.length us_1) : Int))) (bsplit (DB.db (inK .i64 ((↑(LoS.i z) : Int) + (1 : Int)))) (∃ (z' : LoS), (((LoS.i z' ≤ us.length ∧ LoS.f z' = addF A B k fuel n us f (LoS.i z') ∧ headU us (LoS.st z')) ∧ us.length -
 LoS.i z' < us.length - LoS.i z) ∧ 8 = 8 ∧ (6 = 6 ∧ 0 = 0) ∧ (7 = 7 ∧ 0 = 0) ∧ (IntKind.i64 = .i64 ∧ (us.length : Int) = (us.length : Int)) ∧ IntKind.i64 = .i64 ∧ (↑(LoS.i z) : Int) + (1 : Int) = (↑(LoS.i z') : Int)) ∧ (((((((((64 = 64 ∧ 9 = 9 ∧ (((((((avM (AV.xl false 4 (List.length A) fun i j => Enc.enc (List.getD A i Enc.dflt) j) (AV.xl false 4 (List.length A) fun i j => Enc.enc (List.getD A i Enc.dflt) j) ∧ avM (AV.xl false 6 (List.length B) fun i j => Enc.enc (List.getD B i Enc.dflt) j) (AV.xl false 6 (List.length B) fun i j => Enc.enc (List.getD B i Enc.dflt) j)) ∧ IntKind.i64 = .i64 ∧ k =
 k) ∧ 9 = 9 ∧ 0 = 0 ∧ us.length = List.length us_1) ∧ 2 = 2 ∧ 0 = 0 ∧ List.length B = List.length B) ∧ IntKind.i64 = .i64 ∧ costU B us_1 = costU B us) ∧ Fd.found f' = Fd.found (LoS.f z')) ∧ IntKind.i64 = .i64 ∧ Fd.least f' = Fd.least (LoS.f z')) ∧ avM (AV.xl false 3 (List.length (Fd.best f')) fun i j => Enc.enc (List.getD (Fd.best f') i Enc.dflt) j) (AV.xl false 3 (List.length (Fd.best (LoS.f z'))) fun i j => Enc.enc (List.getD (Fd.best (LoS.f z')) i Enc.dflt) j)) ∧ True) ∧ 3 = 3 ∧ 1 = 1 ∧ List.length B = List.length B ∧ ∀ (i j : Nat), i < List.length B → j < 1 → IntKind.i64 = .i64 ∧ (↑(usedN
 us_1 (i : Int)) : Int) = (↑(usedN us (i : Int)) : Int)) ∧ 60 = 60 ∧ 1 = 1 ∧ 0 = 0 ∧ 0 = 0) ∧ 3 = 3 ∧ 1 = 1 ∧ IntKind.i64 = .i64 ∧ (n : Int) = (n : Int)) ∧ 65 = 65 ∧ 1 = 1 ∧ avM (AV.fn (Fn.func (33 : FuncId)) 1 (fun (x : Nat) => AV.np 0 0) 0 fun (x : Nat) => AV.junk) (AV.fn (Fn.func (33 : FuncId)) 1 (fun (x : Nat) => AV.np 0 0) 0 fun (x : Nat) => AV.junk)) ∧ 73 = 73 ∧ 1 = 1 ∧ 0 = 0 ∧ 0 = 0) ∧ 3 = 3 ∧ 1 = 1 ∧ IntKind.i64 = .i64 ∧ (n : Int) = (n : Int)) ∧ LoopState.ready = LoopState.ready ∧ Non Code = Non Code) ∧ 50 = 50 ∧ 3 = 3 ∧ List.length (LoS.st z') = List.length st' ∧ ∀ (i j : Nat), i <
 List.length st' → j < 3 → avM (if i = 0 + Int.toNat (↑(LoS.i z) : Int) ∧ 0 ≤ j ∧ j < 3 then Enc.enc z_3 (0 + (j - 0)) else Enc.enc (List.getD st' i u0) j) (Enc.enc (List.getD (LoS.st z') i u0) j)) False) False) False) (bsplit (DB.db (inK .i64 ((↑(LoS.i z) : Int) + (1 : Int)))) (∃ (z' : LoS), (((LoS.i z' ≤ us.length ∧ LoS.f z' = addF A B k fuel n us f (LoS.i z') ∧ headU us (LoS.st z')) ∧ us.length - LoS.i z' < us.length - LoS.i z) ∧ 8 = 8 ∧ (6 = 6 ∧ 0 = 0) ∧ (7 = 7 ∧ 0 = 0) ∧ (IntKind.i64 = .i64 ∧ (us.length : Int) = (us.length : Int)) ∧ IntKind.i64 = .i64 ∧ (↑(LoS.i z) : Int) + (1 : Int) =
 (↑(LoS.i z') : Int)) ∧ (((((((((64 = 64 ∧ 9 = 9 ∧ (((((((avM (slX 4 A) (slX 4 A) ∧ avM (slX 6 B) (slX 6 B)) ∧ IntKind.i64 = .i64 ∧ k = k) ∧ 9 = 9 ∧ 0 = 0 ∧ us.length = us.length) ∧ 2 = 2 ∧ 0 = 0 ∧ List.length B = List.length B) ∧ IntKind.i64 = .i64 ∧ costU B us = costU B us) ∧ Fd.found (LoS.f z) = Fd.found (LoS.f z')) ∧ IntKind.i64 = .i64 ∧ Fd.least (LoS.f z) = Fd.least (LoS.f z')) ∧ avM (slX 3 (Fd.best (LoS.f z))) (slX 3 (Fd.best (LoS.f z')))) ∧ True) ∧ 3 = 3 ∧ 1 = 1 ∧ List.length B = List.length B ∧ ∀ (i j : Nat), i < List.length B → j < 1 → IntKind.i64 = .i64 ∧ (↑(usedN us (i : Int)) : Int)
 = (↑(usedN us (i : Int)) : Int)) ∧ 60 = 60 ∧ 1 = 1 ∧ 0 = 0 ∧ 0 = 0) ∧ 3 = 3 ∧ 1 = 1 ∧ IntKind.i64 = .i64 ∧ (n : Int) = (n : Int)) ∧ 65 = 65 ∧ 1 = 1 ∧ avM (AV.fn (Fn.func (33 : FuncId)) 1 (fun (x : Nat) => AV.np 0 0) 0 fun (x : Nat) => AV.junk) (AV.fn (Fn.func (33 : FuncId)) 1 (fun (x : Nat) => AV.np 0 0) 0 fun (x : Nat) => AV.junk)) ∧ 73 = 73 ∧ 1 = 1 ∧ 0 = 0 ∧ 0 = 0) ∧ 3 = 3 ∧ 1 = 1 ∧ IntKind.i64 = .i64 ∧ (n : Int) = (n : Int)) ∧ LoopState.ready = LoopState.ready ∧ Non Code = Non Code) ∧ 50 = 50 ∧ 3 = 3 ∧ List.length (LoS.st z') = List.length (LoS.st z) ∧ ∀ (i j : Nat), i < List.length (LoS.st
 z) → j < 3 → avM (Enc.enc (List.getD (LoS.st z) i u0) j) (Enc.enc (List.getD (LoS.st z') i u0) j)) False))) False) False) False) False) (∃ (z_1 : SrS), ((SrS.f z_1 = addF A B k fuel n us f (us.length) ∧ headU us (SrS.st z_1)) ∧ (3 = 3 ∧ 0 = 0) ∧ (4 = 4 ∧ 0 = 0) ∧ 5 = 5 ∧ 0 = 0) ∧ (((((((((64 = 64 ∧ 9 = 9 ∧ (((((((avM (slX 4 A) (slX 4 A) ∧ avM (slX 6 B) (slX 6 B)) ∧ IntKind.i64 = .i64 ∧ k = k) ∧ 9 = 9 ∧ 0 = 0 ∧ us.length = us.length) ∧ 2 = 2 ∧ 0 = 0 ∧ List.length B = List.length B) ∧ IntKind.i64 = .i64 ∧ costU B us = costU B us) ∧ Fd.found (LoS.f z) = Fd.found (SrS.f z_1)) ∧ IntKind.i64 = .i64 ∧
 Fd.least (LoS.f z) = Fd.least (SrS.f z_1)) ∧ avM (slX 3 (Fd.best (LoS.f z))) (slX 3 (Fd.best (SrS.f z_1)))) ∧ True) ∧ 3 = 3 ∧ 1 = 1 ∧ List.length B = List.length B ∧ ∀ (i j : Nat), i < List.length B → j < 1 → IntKind.i64 = .i64 ∧ (↑(usedN us (i : Int)) : Int) = (↑(usedN us (i : Int)) : Int)) ∧ 60 = 60 ∧ 1 = 1 ∧ 0 = 0 ∧ 0 = 0) ∧ 3 = 3 ∧ 1 = 1 ∧ IntKind.i64 = .i64 ∧ (n : Int) = (n : Int)) ∧ 65 = 65 ∧ 1 = 1 ∧ avM (AV.fn (Fn.func (33 : FuncId)) 1 (fun (x : Nat) => AV.np 0 0) 0 fun (x : Nat) => AV.junk) (AV.fn (Fn.func (33 : FuncId)) 1 (fun (x : Nat) => AV.np 0 0) 0 fun (x : Nat) => AV.junk)) ∧
 True) ∧ True) ∧ True) ∧ 50 = 50 ∧ 3 = 3 ∧ List.length (SrS.st z_1) = List.length (LoS.st z) ∧ ∀ (i j : Nat), i < List.length (LoS.st z) → j < 3 → avM (Enc.enc (List.getD (LoS.st z) i u0) j) (Enc.enc (List.getD (SrS.st z_1) i u0) j))) ∧ ∀ (z : SrS), SrS.f z = addF A B k fuel n us f (us.length) ∧ headU us (SrS.st z) → (∃ (z_1 : LoS), ((LoS.i z_1 ≤ List.length B ∧ LoS.f z_1 = freF A B k fuel n us (addF A B k fuel n us f (us.length)) (LoS.i z_1) ∧ headU us (LoS.st z_1)) ∧ 12 = 12 ∧ (10 = 10 ∧ 0 = 0) ∧ (11 = 11 ∧ 0 = 0) ∧ avM (slX 6 B) (slX 6 B) ∧ (IntKind.i64 = .i64 ∧ (↑(List.length B) : Int) =
 (↑(List.length B) : Int)) ∧ IntKind.i64 = .i64 ∧ (0 : Int) = (↑(LoS.i z_1) : Int)) ∧ (((((((((((((64 = 64 ∧ 9 = 9 ∧ (((((((avM (slX 4 A) (slX 4 A) ∧ avM (slX 6 B) (slX 6 B)) ∧ IntKind.i64 = .i64 ∧ k = k) ∧ 13 = 13 ∧ 0 = 0 ∧ us.length = us.length) ∧ 2 = 2 ∧ 0 = 0 ∧ List.length B = List.length B) ∧ IntKind.i64 = .i64 ∧ costU B us = costU B us) ∧ Fd.found (SrS.f z) = Fd.found (LoS.f z_1)) ∧ IntKind.i64 = .i64 ∧ Fd.least (SrS.f z) = Fd.least (LoS.f z_1)) ∧ avM (slX 3 (Fd.best (SrS.f z))) (slX 3 (Fd.best (LoS.f z_1)))) ∧ True) ∧ 3 = 3 ∧ 1 = 1 ∧ List.length B = List.length B ∧ ∀ (i j : Nat), i <
 List.length B → j < 1 → IntKind.i64 = .i64 ∧ (↑(usedN us (i : Int)) : Int) = (↑(usedN us (i : Int)) : Int)) ∧ 60 = 60 ∧ 1 = 1 ∧ 0 = 0 ∧ 0 = 0) ∧ 3 = 3 ∧ 1 = 1 ∧ IntKind.i64 = .i64 ∧ (n : Int) = (n : Int)) ∧ 65 = 65 ∧ 1 = 1 ∧ avM (AV.fn (Fn.func (33 : FuncId)) 1 (fun (x : Nat) => AV.np 0 0) 0 fun (x : Nat) => AV.junk) (AV.fn (Fn.func (33 : FuncId)) 1 (fun (x : Nat) => AV.np 0 0) 0 fun (x : Nat) => AV.junk)) ∧ True) ∧ True) ∧ True) ∧ True) ∧ (73 : TypeId) = 73 ∧ 1 = 1 ∧ 0 = 0 ∧ 0 = 0) ∧ (3 : TypeId) = 3 ∧ 1 = 1 ∧ IntKind.i64 = .i64 ∧ (n : Int) = (n : Int)) ∧ LoopState.ready = LoopState.ready ∧
 Non Code = Non Code) ∧ 50 = 50 ∧ 3 = 3 ∧ List.length (LoS.st z_1) = List.length (SrS.st z) ∧ ∀ (i j : Nat), i < List.length (SrS.st z) → j < 3 → avM (Enc.enc (List.getD (SrS.st z) i u0) j) (Enc.enc (List.getD (LoS.st z_1) i u0) j)) ∧ ∀ (z : LoS), LoS.i z ≤ List.length B ∧ LoS.f z = freF A B k fuel n us (addF A B k fuel n us f (us.length)) (LoS.i z) ∧ headU us (LoS.st z) → bsplit (ltB (↑(LoS.i z) : Int) (↑(List.length B) : Int)) (bsplit (DB.db ((0 : Int) ≤ (↑(LoS.i z) : Int) ∧ (↑(LoS.i z) : Int) < (↑(List.length B) : Int))) (∃ (z_1 : Bar), (z_1 = List.getD B (Int.toNat (AV.int (AV.v (Value.int
 .i64 (↑(LoS.i z) : Int))))) b0 ∧ 12 = 12 ∧ (10 = 10 ∧ 0 = 0) ∧ (11 = 11 ∧ 0 = 0) ∧ avM (slX 6 B) (slX 6 B) ∧ (IntKind.i64 = .i64 ∧ (↑(List.length B) : Int) = (↑(List.length B) : Int)) ∧ (IntKind.i64 = .i64 ∧ (↑(LoS.i z) : Int) = (↑(LoS.i z) : Int)) ∧ (IntKind.i64 = .i64 ∧ (↑(LoS.i z) : Int) = (↑(LoS.i z) : Int)) ∧ 14 = 14 ∧ 0 = 0) ∧ ((((((((((((((64 = 64 ∧ 9 = 9 ∧ (((((((avM (slX 4 A) (slX 4 A) ∧ avM (slX 6 B) (slX 6 B)) ∧ IntKind.i64 = .i64 ∧ k = k) ∧ 13 = 13 ∧ 0 = 0 ∧ us.length = us.length) ∧ 2 = 2 ∧ 0 = 0 ∧ List.length B = List.length B) ∧ IntKind.i64 = .i64 ∧ costU B us = costU B us) ∧
 Fd.found (LoS.f z) = Fd.found (LoS.f z)) ∧ IntKind.i64 = .i64 ∧ Fd.least (LoS.f z) = Fd.least (LoS.f z)) ∧ avM (slX 3 (Fd.best (LoS.f z))) (slX 3 (Fd.best (LoS.f z)))) ∧ True) ∧ 3 = 3 ∧ 1 = 1 ∧ List.length B = List.length B ∧ ∀ (i j : Nat), i < List.length B → j < 1 → IntKind.i64 = .i64 ∧ (↑(usedN us (i : Int)) : Int) = (↑(usedN us (i : Int)) : Int)) ∧ 60 = 60 ∧ 1 = 1 ∧ 0 = 0 ∧ 0 = 0) ∧ 3 = 3 ∧ 1 = 1 ∧ IntKind.i64 = .i64 ∧ (n : Int) = (n : Int)) ∧ 65 = 65 ∧ 1 = 1 ∧ avM (AV.fn (Fn.func (33 : FuncId)) 1 (fun (x : Nat) => AV.np 0 0) 0 fun (x : Nat) => AV.junk) (AV.fn (Fn.func (33 : FuncId)) 1 (fun
 (x : Nat) => AV.np 0 0) 0 fun (x : Nat) => AV.junk)) ∧ True) ∧ True) ∧ True) ∧ True) ∧ 73 = 73 ∧ 1 = 1 ∧ 0 = 0 ∧ 0 = 0) ∧ 3 = 3 ∧ 1 = 1 ∧ IntKind.i64 = .i64 ∧ (n : Int) = (n : Int)) ∧ LoopState.ready = LoopState.ready ∧ Non Code = Non Code) ∧ 50 = 50 ∧ 3 = 3 ∧ List.length (LoS.st z) = List.length (LoS.st z) ∧ ∀ (i j : Nat), i < List.length (LoS.st z) → j < 3 → avM (Enc.enc (List.getD (LoS.st z) i u0) j) (Enc.enc (List.getD (LoS.st z) i u0) j)) ∧ (26 : TypeId) = 26 ∧ 6 = 6 ∧ (((((IntKind.i64 = .i64 ∧ Bar.w (List.getD B (Int.toNat (↑(LoS.i z) : Int)) Enc.dflt) = Bar.w z_1) ∧ IntKind.i64 = .i64 ∧
 Bar.d (List.getD B (Int.toNat (↑(LoS.i z) : Int)) Enc.dflt) = Bar.d z_1) ∧ IntKind.i64 = .i64 ∧ Bar.l (List.getD B (Int.toNat (↑(LoS.i z) : Int)) Enc.dflt) = Bar.l z_1) ∧ IntKind.i64 = .i64 ∧ Bar.n (List.getD B (Int.toNat (↑(LoS.i z) : Int)) Enc.dflt) = Bar.n z_1) ∧ IntKind.i64 = .i64 ∧ Bar.c (List.getD B (Int.toNat (↑(LoS.i z) : Int)) Enc.dflt) = Bar.c z_1) ∧ avM (slX 2 (Bar.gs (List.getD B (Int.toNat (↑(LoS.i z) : Int)) Enc.dflt))) (slX 2 (Bar.gs z_1))) False ∧ ∀ (z_1 : Bar), z_1 = List.getD B (Int.toNat (AV.int (AV.v (Value.int .i64 (↑(LoS.i z) : Int))))) b0 → bsplit (DB.db ((0 : Int) ≤ (n :
 Int) ∧ (n : Int) < (↑(List.length A) : Int))) (bsplit (agOk Cut (AV.agg 4 fun (i : Nat) => Enc.enc (List.getD A (Int.toNat (n : Int)) Enc.dflt) (0 + i))) (bsplit (agOk Bar (AV.agg 6 fun (i : Nat) => Enc.enc z_1 (0 + i))) (bsplit (!bsel false !sectB (agD (AV.agg 4 fun (i : Nat) => Enc.enc (List.getD A (Int.toNat (n : Int)) Enc.dflt) (0 + i))) (agD (AV.agg 6 fun (i : Nat) => Enc.enc z_1 (0 + i))) || bsel false !sectB (agD (AV.agg 4 fun (i : Nat) => Enc.enc (List.getD A (Int.toNat (n : Int)) Enc.dflt) (0 + i))) (agD (AV.agg 6 fun (i : Nat) => Enc.enc z_1 (0 + i)))) (bsplit (!bsel false !sectB (agD
 (AV.agg 4 fun (i : Nat) => Enc.enc (List.getD A (Int.toNat (n : Int)) Enc.dflt) (0 + i))) (agD (AV.agg 6 fun (i : Nat) => Enc.enc z_1 (0 + i))) || bsel false !sectB (agD (AV.agg 4 fun (i : Nat) => Enc.enc (List.getD A (Int.toNat (n : Int)) Enc.dflt) (0 + i))) (agD (AV.agg 6 fun (i : Nat) => Enc.enc z_1 (0 + i)))) (bsplit (!bsel false !sectB (agD (AV.agg 4 fun (i : Nat) => Enc.enc (List.getD A (Int.toNat (n : Int)) Enc.dflt) (0 + i))) (agD (AV.agg 6 fun (i : Nat) => Enc.enc z_1 (0 + i))) || bsel false !sectB (agD (AV.agg 4 fun (i : Nat) => Enc.enc (List.getD A (Int.toNat (n : Int)) Enc.dflt) (0
 + i))) (agD (AV.agg 6 fun (i : Nat) => Enc.enc z_1 (0 + i)))) (bsplit (!bsel false !sectB (agD (AV.agg 4 fun (i : Nat) => Enc.enc (List.getD A (Int.toNat (n : Int)) Enc.dflt) (0 + i))) (agD (AV.agg 6 fun (i : Nat) => Enc.enc z_1 (0 + i))) || bsel false !sectB (agD (AV.agg 4 fun (i : Nat) => Enc.enc (List.getD A (Int.toNat (n : Int)) Enc.dflt) (0 + i))) (agD (AV.agg 6 fun (i : Nat) => Enc.enc z_1 (0 + i)))) (bsplit (!bsel false !sectB (agD (AV.agg 4 fun (i : Nat) => Enc.enc (List.getD A (Int.toNat (n : Int)) Enc.dflt) (0 + i))) (agD (AV.agg 6 fun (i : Nat) => Enc.enc z_1 (0 + i))) || bsel false
 !sectB (agD (AV.agg 4 fun (i : Nat) => Enc.enc (List.getD A (Int.toNat (n : Int)) Enc.dflt) (0 + i))) (agD (AV.agg 6 fun (i : Nat) => Enc.enc z_1 (0 + i)))) (bsplit (!bsel false !sectB (agD (AV.agg 4 fun (i : Nat) => Enc.enc (List.getD A (Int.toNat (n : Int)) Enc.dflt) (0 + i))) (agD (AV.agg 6 fun (i : Nat) => Enc.enc z_1 (0 + i))) || DB.db ((0 : Int) ≤ (↑(LoS.i z) : Int) ∧ (↑(LoS.i z) : Int) < (↑(List.length B) : Int))) (bsplit (!bsel false !sectB (agD (AV.agg 4 fun (i : Nat) => Enc.enc (List.getD A (Int.toNat (n : Int)) Enc.dflt) (0 + i))) (agD (AV.agg 6 fun (i : Nat) => Enc.enc z_1 (0 + i)))
 || bsel false !sectB (agD (AV.agg 4 fun (i : Nat) => Enc.enc (List.getD A (Int.toNat (n : Int)) Enc.dflt) (0 + i))) (agD (AV.agg 6 fun (i : Nat) => Enc.enc z_1 (0 + i)))) (bsplit (!bsel false !sectB (agD (AV.agg 4 fun (i : Nat) => Enc.enc (List.getD A (Int.toNat (n : Int)) Enc.dflt) (0 + i))) (agD (AV.agg 6 fun (i : Nat) => Enc.enc z_1 (0 + i))) || bsel false !sectB (agD (AV.agg 4 fun (i : Nat) => Enc.enc (List.getD A (Int.toNat (n : Int)) Enc.dflt) (0 + i))) (agD (AV.agg 6 fun (i : Nat) => Enc.enc z_1 (0 + i)))) (bsplit (!bsel false !sectB (agD (AV.agg 4 fun (i : Nat) => Enc.enc (List.getD A
 (Int.toNat (n : Int)) Enc.dflt) (0 + i))) (agD (AV.agg 6 fun (i : Nat) => Enc.enc z_1 (0 + i))) || bsel false !sectB (agD (AV.agg 4 fun (i : Nat) => Enc.enc (List.getD A (Int.toNat (n : Int)) Enc.dflt) (0 + i))) (agD (AV.agg 6 fun (i : Nat) => Enc.enc z_1 (0 + i)))) (bsplit (!bsel false !sectB (agD (AV.agg 4 fun (i : Nat) => Enc.enc (List.getD A (Int.toNat (n : Int)) Enc.dflt) (0 + i))) (agD (AV.agg 6 fun (i : Nat) => Enc.enc z_1 (0 + i))) || bsel false !sectB (agD (AV.agg 4 fun (i : Nat) => Enc.enc (List.getD A (Int.toNat (n : Int)) Enc.dflt) (0 + i))) (agD (AV.agg 6 fun (i : Nat) => Enc.enc
 z_1 (0 + i)))) (bsplit (!!!sectB (agD (AV.agg 4 fun (i : Nat) => Enc.enc (List.getD A (Int.toNat (n : Int)) Enc.dflt) (0 + i))) (agD (AV.agg 6 fun (i : Nat) => Enc.enc z_1 (0 + i))) || bsel false !sectB (agD (AV.agg 4 fun (i : Nat) => Enc.enc (List.getD A (Int.toNat (n : Int)) Enc.dflt) (0 + i))) (agD (AV.agg 6 fun (i : Nat) => Enc.enc z_1 (0 + i)))) (bsplit (bif !sectB (agD (AV.agg 4 fun (i : Nat) => Enc.enc (List.getD A (Int.toNat (n : Int)) Enc.dflt) (0 + i))) (agD (AV.agg 6 fun (i : Nat) => Enc.enc z_1 (0 + i))) then true else leB (Bar.n z_1) (↑(usedN us (↑(0 + Int.toNat (↑(LoS.i z) : Int))
 : Int)) : Int)) (bsplit (DB.db (inK .i64 ((↑(LoS.i z) : Int) + (1 : Int)))) (∃ (z' : LoS), (((LoS.i z' ≤ List.length B ∧ LoS.f z' = freF A B k fuel n us (addF A B k fuel n us f (us.length)) (LoS.i z') ∧ headU us (LoS.st z')) ∧ List.length B - LoS.i z' < List.length B - LoS.i z) ∧ 12 = 12 ∧ (10 = 10 ∧ 0 = 0) ∧ (11 = 11 ∧ 0 = 0) ∧ avM (slX 6 B) (slX 6 B) ∧ (IntKind.i64 = .i64 ∧ (↑(List.length B) : Int) = (↑(List.length B) : Int)) ∧ IntKind.i64 = .i64 ∧ (↑(LoS.i z) : Int) + (1 : Int) = (↑(LoS.i z') : Int)) ∧ (((((((((((((64 = 64 ∧ 9 = 9 ∧ (((((((avM (AV.xl false 4 (List.length A) fun i j =>
 Enc.enc (List.getD A i Enc.dflt) j) (AV.xl false 4 (List.length A) fun i j => Enc.enc (List.getD A i Enc.dflt) j) ∧ avM (AV.xl false 6 (List.length B) fun i j => Enc.enc (List.getD B i Enc.dflt) j) (AV.xl false 6 (List.length B) fun i j => Enc.enc (List.getD B i Enc.dflt) j)) ∧ IntKind.i64 = .i64 ∧ k = k) ∧ 13 = 13 ∧ 0 = 0 ∧ us.length = us.length) ∧ 2 = 2 ∧ 0 = 0 ∧ List.length B = List.length B) ∧ IntKind.i64 = .i64 ∧ costU B us = costU B us) ∧ Fd.found (LoS.f z) = Fd.found (LoS.f z')) ∧ IntKind.i64 = .i64 ∧ Fd.least (LoS.f z) = Fd.least (LoS.f z')) ∧ avM (AV.xl false 3 (List.length (Fd.best
 (LoS.f z))) fun i j => Enc.enc (List.getD (Fd.best (LoS.f z)) i Enc.dflt) j) (AV.xl false 3 (List.length (Fd.best (LoS.f z'))) fun i j => Enc.enc (List.getD (Fd.best (LoS.f z')) i Enc.dflt) j)) ∧ True) ∧ 3 = 3 ∧ 1 = 1 ∧ List.length B = List.length B ∧ ∀ (i j : Nat), i < List.length B → j < 1 → IntKind.i64 = .i64 ∧ (↑(usedN us (i : Int)) : Int) = (↑(usedN us (i : Int)) : Int)) ∧ 60 = 60 ∧ 1 = 1 ∧ 0 = 0 ∧ 0 = 0) ∧ 3 = 3 ∧ 1 = 1 ∧ IntKind.i64 = .i64 ∧ (n : Int) = (n : Int)) ∧ 65 = 65 ∧ 1 = 1 ∧ avM (AV.fn (Fn.func (33 : FuncId)) 1 (fun (x : Nat) => AV.np 0 0) 0 fun (x : Nat) => AV.junk) (AV.fn
 (Fn.func (33 : FuncId)) 1 (fun (x : Nat) => AV.np 0 0) 0 fun (x : Nat) => AV.junk)) ∧ True) ∧ True) ∧ True) ∧ True) ∧ 73 = 73 ∧ 1 = 1 ∧ 0 = 0 ∧ 0 = 0) ∧ 3 = 3 ∧ 1 = 1 ∧ IntKind.i64 = .i64 ∧ (n : Int) = (n : Int)) ∧ LoopState.ready = LoopState.ready ∧ Non Code = Non Code) ∧ 50 = 50 ∧ 3 = 3 ∧ List.length (LoS.st z') = List.length (LoS.st z) ∧ ∀ (i j : Nat), i < List.length (LoS.st z) → j < 3 → avM (Enc.enc (List.getD (LoS.st z) i u0) j) (Enc.enc (List.getD (LoS.st z') i u0) j)) False) (bsplit (slOk Cut (slX 4 A)) (bsplit (agOk Bar (AV.agg 6 fun (i : Nat) => Enc.enc z_1 (0 + i))) (bsplit (inL (slD
 (slX 4 A)) (slD (AV.xl true 1 1 (Sx.rowAt [fun (x : Nat) => AV.v (Value.int .i64 (n : Int))]))) && Nat.blt (List.length (intsOf (AV.xl true 1 1 (Sx.rowAt [fun (x : Nat) => AV.v (Value.int .i64 (n : Int))])))) 1000000000) (∃ (z_2 : AtS), (plusU A B k (Used.mk (AV.int (AV.v (Value.int .i64 (↑(LoS.i z) : Int)))) [] []) n z_2 ∧ 12 = 12 ∧ (10 = 10 ∧ 0 = 0) ∧ (11 = 11 ∧ 0 = 0) ∧ avM (slX 6 B) (slX 6 B) ∧ (IntKind.i64 = .i64 ∧ (↑(List.length B) : Int) = (↑(List.length B) : Int)) ∧ (IntKind.i64 = .i64 ∧ (↑(LoS.i z) : Int) = (↑(LoS.i z) : Int)) ∧ (IntKind.i64 = .i64 ∧ (↑(LoS.i z) : Int) = (↑(LoS.i z) :
 Int)) ∧ avM (slN (fitsAt (agD (AV.agg 6 fun (i : Nat) => Enc.enc z_1 (0 + i))) (lensL (slD (AV.xl false 4 (List.length A) fun i j => Enc.enc (List.getD A i Enc.dflt) j)) (slD (AV.xl true 1 1 (Sx.rowAt [fun (x : Nat) => AV.v (Value.int .i64 (n : Int))])))) k)) (slN (AtS.at_ z_2)) ∧ fitsOk (agD (AV.agg 6 fun (i : Nat) => Enc.enc z_1 (0 + i))) (lensL (slD (AV.xl false 4 (List.length A) fun i j => Enc.enc (List.getD A i Enc.dflt) j)) (slD (AV.xl true 1 1 (Sx.rowAt [fun (x : Nat) => AV.v (Value.int .i64 (n : Int))])))) k = AtS.is z_2) ∧ ((((((((((((((64 = 64 ∧ 9 = 9 ∧ (((((((avM (AV.xl false 4
 (List.length A) fun i j => Enc.enc (List.getD A i Enc.dflt) j) (AV.xl false 4 (List.length A) fun i j => Enc.enc (List.getD A i Enc.dflt) j) ∧ avM (AV.xl false 6 (List.length B) fun i j => Enc.enc (List.getD B i Enc.dflt) j) (AV.xl false 6 (List.length B) fun i j => Enc.enc (List.getD B i Enc.dflt) j)) ∧ IntKind.i64 = .i64 ∧ k = k) ∧ 13 = 13 ∧ 0 = 0 ∧ us.length = us.length) ∧ 2 = 2 ∧ 0 = 0 ∧ List.length B = List.length B) ∧ IntKind.i64 = .i64 ∧ costU B us = costU B us) ∧ Fd.found (LoS.f z) = Fd.found (LoS.f z)) ∧ IntKind.i64 = .i64 ∧ Fd.least (LoS.f z) = Fd.least (LoS.f z)) ∧ avM (AV.xl false 3
 (List.length (Fd.best (LoS.f z))) fun i j => Enc.enc (List.getD (Fd.best (LoS.f z)) i Enc.dflt) j) (AV.xl false 3 (List.length (Fd.best (LoS.f z))) fun i j => Enc.enc (List.getD (Fd.best (LoS.f z)) i Enc.dflt) j)) ∧ True) ∧ 3 = 3 ∧ 1 = 1 ∧ List.length B = List.length B ∧ ∀ (i j : Nat), i < List.length B → j < 1 → IntKind.i64 = .i64 ∧ (↑(usedN us (i : Int)) : Int) = (↑(usedN us (i : Int)) : Int)) ∧ 60 = 60 ∧ 1 = 1 ∧ 0 = 0 ∧ 0 = 0) ∧ 3 = 3 ∧ 1 = 1 ∧ IntKind.i64 = .i64 ∧ (n : Int) = (n : Int)) ∧ 65 = 65 ∧ 1 = 1 ∧ avM (AV.fn (Fn.func (33 : FuncId)) 1 (fun (x : Nat) => AV.np 0 0) 0 fun (x : Nat) =>
 AV.junk) (AV.fn (Fn.func (33 : FuncId)) 1 (fun (x : Nat) => AV.np 0 0) 0 fun (x : Nat) => AV.junk)) ∧ True) ∧ True) ∧ True) ∧ True) ∧ 73 = 73 ∧ 1 = 1 ∧ 0 = 0 ∧ 0 = 0) ∧ 3 = 3 ∧ 1 = 1 ∧ IntKind.i64 = .i64 ∧ (n : Int) = (n : Int)) ∧ LoopState.ready = LoopState.ready ∧ Non Code = Non Code) ∧ 50 = 50 ∧ 3 = 3 ∧ List.length (LoS.st z) = List.length (LoS.st z) ∧ ∀ (i j : Nat), i < List.length (LoS.st z) → j < 3 → avM (Enc.enc (List.getD (LoS.st z) i u0) j) (Enc.enc (List.getD (LoS.st z) i u0) j)) ∧ 26 = 26 ∧ 6 = 6 ∧ (((((IntKind.i64 = .i64 ∧ Bar.w z_1 = Bar.w z_1) ∧ IntKind.i64 = .i64 ∧ Bar.d z_1 =
 Bar.d z_1) ∧ IntKind.i64 = .i64 ∧ Bar.l z_1 = Bar.l z_1) ∧ IntKind.i64 = .i64 ∧ Bar.n z_1 = Bar.n z_1) ∧ IntKind.i64 = .i64 ∧ Bar.c z_1 = Bar.c z_1) ∧ avM (slX 2 (Bar.gs z_1)) (slX 2 (Bar.gs z_1))) False) False) False ∧ ∀ (z_2 : AtS), plusU A B k (Used.mk (AV.int (AV.v (Value.int .i64 (↑(LoS.i z) : Int)))) [] []) n z_2 → bsplit (AtS.is z_2) (bsplit (DB.db ((us.length + 1) * 56 ≤ 140737488355328)) (bsplit (DB.db ((0 : Int) ≤ (↑(LoS.i z) : Int) ∧ (↑(LoS.i z) : Int) < (↑(List.length B) : Int))) (bsplit (DB.db (inK .i64 ((↑(usedN us (↑(0 + Int.toNat (↑(LoS.i z) : Int)) : Int)) : Int) + (1 : Int))))
 (bsplit (DB.db ((0 : Int) ≤ (↑(LoS.i z) : Int) ∧ (↑(LoS.i z) : Int) < (↑(List.length B) : Int))) (∃ (z_3 : Unit), (True ∧ (3 = 3 ∧ 0 = 0) ∧ (4 = 4 ∧ 0 = 0) ∧ (5 = 5 ∧ 0 = 0) ∧ IntKind.i64 = .i64 ∧ (↑(LoS.i z) : Int) = (↑(LoS.i z) : Int)) ∧ (((((((((((((((64 = 64 ∧ 9 = 9 ∧ (((((((avM (AV.xl false 4 (List.length A) fun i j => Enc.enc (List.getD A i Enc.dflt) j) (AV.xl false 4 (List.length A) fun i j => Enc.enc (List.getD A i Enc.dflt) j) ∧ avM (AV.xl false 6 (List.length B) fun i j => Enc.enc (List.getD B i Enc.dflt) j) (AV.xl false 6 (List.length B) fun i j => Enc.enc (List.getD B i Enc.dflt)
 j)) ∧ IntKind.i64 = .i64 ∧ k = k) ∧ 15 = 15 ∧ 0 = 0 ∧ us.length + 1 = us.length + 1) ∧ 2 = 2 ∧ 0 = 0 ∧ List.length B = List.length B) ∧ IntKind.i64 = .i64 ∧ costU B us = costU B us) ∧ Fd.found (LoS.f z) = Fd.found (LoS.f z)) ∧ IntKind.i64 = .i64 ∧ Fd.least (LoS.f z) = Fd.least (LoS.f z)) ∧ avM (AV.xl false 3 (List.length (Fd.best (LoS.f z))) fun i j => Enc.enc (List.getD (Fd.best (LoS.f z)) i Enc.dflt) j) (AV.xl false 3 (List.length (Fd.best (LoS.f z))) fun i j => Enc.enc (List.getD (Fd.best (LoS.f z)) i Enc.dflt) j)) ∧ True) ∧ 3 = 3 ∧ 1 = 1 ∧ List.length B = List.length B ∧ ∀ (i j : Nat), i <
 List.length B → j < 1 → avM (if i = 0 + Int.toNat (↑(LoS.i z) : Int) ∧ 0 ≤ j ∧ j < 1 then AV.v (Value.int .i64 ((↑(usedN us (↑(0 + Int.toNat (↑(LoS.i z) : Int)) : Int)) : Int) + (1 : Int))) else AV.v (Value.int .i64 (↑(usedN us (i : Int)) : Int))) (AV.v (Value.int .i64 (↑(usedN (us ++ [Used.mk (AV.int (AV.v (Value.int .i64 (↑(LoS.i z) : Int)))) [(n : Int)] (intsOf (AV.xl false 1 (List.length (AtS.at_ z_2)) fun i j => AV.v (Value.int .i64 (List.getD (AtS.at_ z_2) i Enc.dflt))))]) (i : Int)) : Int)))) ∧ 60 = 60 ∧ 1 = 1 ∧ 0 = 0 ∧ 0 = 0) ∧ 3 = 3 ∧ 1 = 1 ∧ IntKind.i64 = .i64 ∧ (n : Int) = (n : Int))
 ∧ 65 = 65 ∧ 1 = 1 ∧ avM (AV.fn (Fn.func (33 : FuncId)) 1 (fun (x : Nat) => AV.np 0 0) 0 fun (x : Nat) => AV.junk) (AV.fn (Fn.func (33 : FuncId)) 1 (fun (x : Nat) => AV.np 0 0) 0 fun (x : Nat) => AV.junk)) ∧ True) ∧ True) ∧ True) ∧ True) ∧ 73 = 73 ∧ 1 = 1 ∧ 0 = 0 ∧ 0 = 0) ∧ 3 = 3 ∧ 1 = 1 ∧ IntKind.i64 = .i64 ∧ (n : Int) = (n : Int)) ∧ LoopState.busy = LoopState.busy ∧ Non Code = Non Code) ∧ True) ∧ 26 = 26 ∧ 6 = 6 ∧ (((((IntKind.i64 = .i64 ∧ Bar.w z_1 = Bar.w z_1) ∧ IntKind.i64 = .i64 ∧ Bar.d z_1 = Bar.d z_1) ∧ IntKind.i64 = .i64 ∧ Bar.l z_1 = Bar.l z_1) ∧ IntKind.i64 = .i64 ∧ Bar.n z_1 = Bar.n
 z_1) ∧ IntKind.i64 = .i64 ∧ Bar.c z_1 = Bar.c z_1) ∧ avM (slX 2 (Bar.gs z_1)) (slX 2 (Bar.gs z_1))) ∧ (50 : TypeId) = 50 ∧ 3 = 3 ∧ us.length + 1 = us.length + 1 ∧ ∀ (i j : Nat), i < us.length + 1 → j < 3 → avM (if i < us.length then Enc.enc (List.getD (LoS.st z) i u0) j else Sx.rowAt [listFn [AV.v (Value.int .i64 (↑(LoS.i z) : Int)), AV.xl true 1 1 (Sx.rowAt [fun (x : Nat) => AV.v (Value.int .i64 (n : Int))]), AV.xl false 1 (List.length (AtS.at_ z_2)) fun i j => AV.v (Value.int .i64 (List.getD (AtS.at_ z_2) i Enc.dflt))]] (i - us.length) j) (Enc.enc (List.getD (us ++ [Used.mk (AV.int (AV.v
 (Value.int .i64 (↑(LoS.i z) : Int)))) [(n : Int)] (intsOf (AV.xl false 1 (List.length (AtS.at_ z_2)) fun i j => AV.v (Value.int .i64 (List.getD (AtS.at_ z_2) i Enc.dflt))))]) i u0) j)) False) False) False) False ∧ ∀ (z_3 : Unit), True → bsplit (DB.db ((0 : Int) ≤ (↑(LoS.i z) : Int) ∧ (↑(LoS.i z) : Int) < (↑(List.length B) : Int))) (bsplit (DB.db (inK .i64 (costU B us + Bar.c (List.getD B (Int.toNat (↑(LoS.i z) : Int)) Enc.dflt)))) (bsplit (DB.db (inK .i64 ((n : Int) + (1 : Int)))) (∃ (us_1 : List Used), ∃ (st : List Used), ∃ (f_1 : Fd), (Wk [slX 4 A, slX 6 B, AV.v (Value.int .i64 k), AV.v
 (Value.int .i64 (costU B us + Bar.c (List.getD B (Int.toNat (↑(LoS.i z) : Int)) Enc.dflt))), AV.v (Value.bool (Fd.found (LoS.f z))), AV.v (Value.int .i64 (Fd.least (LoS.f z))), slX 3 (Fd.best (LoS.f z))] [slX 4 A, slX 6 B, AV.v (Value.int .i64 k), AV.v (Value.int .i64 (costU B us_1)), AV.v (Value.bool (Fd.found f_1)), AV.v (Value.int .i64 (Fd.least f_1)), slX 3 (Fd.best f_1)] ∧ (us.length + 1 = List.length us_1 ∧ List.length B = List.length B ∧ headU us_1 st) ∧ ToldU (us.length + 1) (fun i j => Enc.enc (List.getD (us ++ [Used.mk (AV.int (AV.v (Value.int .i64 (↑(LoS.i z) : Int)))) [(n : Int)]
 (intsOf (AV.xl false 1 (List.length (AtS.at_ z_2)) fun i j => AV.v (Value.int .i64 (List.getD (AtS.at_ z_2) i Enc.dflt))))]) i u0) j) st ∧ ToldT (List.length B) (fun (j x : Nat) => AV.v (Value.int .i64 (↑(usedN (us ++ [Used.mk (AV.int (AV.v (Value.int .i64 (↑(LoS.i z) : Int)))) [(n : Int)] (intsOf (AV.xl false 1 (List.length (AtS.at_ z_2)) fun i j => AV.v (Value.int .i64 (List.getD (AtS.at_ z_2) i Enc.dflt))))]) (j : Int)) : Int))) B us_1 ∧ Fit A B fuel ((n : Int) + (1 : Int)) us_1) ∧ ∀ (f' : Fd) (st' : List Used), f' = fromF A B k fuel (Int.toNat ((n : Int) + (1 : Int))) us_1 f_1 ∧ headU us_1
 st' → bsplit (DB.db ((0 : Int) ≤ (↑(LoS.i z) : Int) ∧ (↑(LoS.i z) : Int) < (↑(List.length B) : Int))) (bsplit (DB.db (inK .i64 (costU B us_1 - Bar.c (List.getD B (Int.toNat (↑(LoS.i z) : Int)) Enc.dflt)))) (bsplit (DB.db ((0 : Int) ≤ (↑(LoS.i z) : Int) ∧ (↑(LoS.i z) : Int) < (↑(List.length B) : Int))) (bsplit (DB.db (inK .i64 ((↑(usedN us_1 (↑(0 + Int.toNat (↑(LoS.i z) : Int)) : Int)) : Int) - (1 : Int)))) (bsplit (DB.db ((0 : Int) ≤ (↑(LoS.i z) : Int) ∧ (↑(LoS.i z) : Int) < (↑(List.length B) : Int))) (bsplit (DB.db (inK .i64 ((↑(List.length us_1) : Int) - (1 : Int)))) (bsplit (DB.db ((0 : Int)
 ≤ (↑(List.length us_1) : Int) - (1 : Int) ∧ (↑(List.length us_1) : Int) - (1 : Int) ≤ (↑(List.length us_1) : Int))) (bsplit (DB.db (inK .i64 ((↑(LoS.i z) : Int) + (1 : Int)))) (∃ (z' : LoS), (((LoS.i z' ≤ List.length B ∧ LoS.f z' = freF A B k fuel n us (addF A B k fuel n us f (us.length)) (LoS.i z') ∧ headU us (LoS.st z')) ∧ List.length B - LoS.i z' < List.length B - LoS.i z) ∧ 12 = 12 ∧ (10 = 10 ∧ 0 = 0) ∧ (11 = 11 ∧ 0 = 0) ∧ avM (AV.xl false 6 (List.length B) fun i j => Enc.enc (List.getD B i Enc.dflt) j) (AV.xl false 6 (List.length B) fun i j => Enc.enc (List.getD B i Enc.dflt) j) ∧
 (IntKind.i64 = .i64 ∧ (↑(List.length B) : Int) = (↑(List.length B) : Int)) ∧ IntKind.i64 = .i64 ∧ (↑(LoS.i z) : Int) + (1 : Int) = (↑(LoS.i z') : Int)) ∧ (((((((((((((64 = 64 ∧ 9 = 9 ∧ (((((((avM (AV.xl false 4 (List.length A) fun i j => Enc.enc (List.getD A i Enc.dflt) j) (AV.xl false 4 (List.length A) fun i j => Enc.enc (List.getD A i Enc.dflt) j) ∧ avM (AV.xl false 6 (List.length B) fun i j => Enc.enc (List.getD B i Enc.dflt) j) (AV.xl false 6 (List.length B) fun i j => Enc.enc (List.getD B i Enc.dflt) j)) ∧ IntKind.i64 = .i64 ∧ k = k) ∧ 13 = 13 ∧ 0 = 0 ∧ us.length = Int.toNat
 ((↑(List.length us_1) : Int) - (1 : Int))) ∧ 2 = 2 ∧ 0 = 0 ∧ List.length B = List.length B) ∧ IntKind.i64 = .i64 ∧ costU B us_1 - Bar.c (List.getD B (Int.toNat (↑(LoS.i z) : Int)) Enc.dflt) = costU B us) ∧ Fd.found f' = Fd.found (LoS.f z')) ∧ IntKind.i64 = .i64 ∧ Fd.least f' = Fd.least (LoS.f z')) ∧ avM (AV.xl false 3 (List.length (Fd.best f')) fun i j => Enc.enc (List.getD (Fd.best f') i Enc.dflt) j) (AV.xl false 3 (List.length (Fd.best (LoS.f z'))) fun i j => Enc.enc (List.getD (Fd.best (LoS.f z')) i Enc.dflt) j)) ∧ True) ∧ 3 = 3 ∧ 1 = 1 ∧ List.length B = List.length B ∧ ∀ (i j : Nat), i <
 List.length B → j < 1 → avM (if i = 0 + Int.toNat (↑(LoS.i z) : Int) ∧ 0 ≤ j ∧ j < 1 then AV.v (Value.int .i64 ((↑(usedN us_1 (↑(0 + Int.toNat (↑(LoS.i z) : Int)) : Int)) : Int) - (1 : Int))) else AV.v (Value.int .i64 (↑(usedN us_1 (i : Int)) : Int))) (AV.v (Value.int .i64 (↑(usedN us (i : Int)) : Int)))) ∧ 60 = 60 ∧ 1 = 1 ∧ 0 = 0 ∧ 0 = 0) ∧ 3 = 3 ∧ 1 = 1 ∧ IntKind.i64 = .i64 ∧ (n : Int) = (n : Int)) ∧ 65 = 65 ∧ 1 = 1 ∧ avM (AV.fn (Fn.func (33 : FuncId)) 1 (fun (x : Nat) => AV.np 0 0) 0 fun (x : Nat) => AV.junk) (AV.fn (Fn.func (33 : FuncId)) 1 (fun (x : Nat) => AV.np 0 0) 0 fun (x : Nat) =>
 AV.junk)) ∧ True) ∧ True) ∧ True) ∧ True) ∧ 73 = 73 ∧ 1 = 1 ∧ 0 = 0 ∧ 0 = 0) ∧ 3 = 3 ∧ 1 = 1 ∧ IntKind.i64 = .i64 ∧ (n : Int) = (n : Int)) ∧ LoopState.ready = LoopState.ready ∧ Non Code = Non Code) ∧ 50 = 50 ∧ 3 = 3 ∧ List.length (LoS.st z') = List.length st' ∧ ∀ (i j : Nat), i < List.length st' → j < 3 → avM (Enc.enc (List.getD st' i u0) j) (Enc.enc (List.getD (LoS.st z') i u0) j)) False) False) False) False) False) False) False) False) False) False) False) (bsplit (DB.db (inK .i64 ((↑(LoS.i z) : Int) + (1 : Int)))) (∃ (z' : LoS), (((LoS.i z' ≤ List.length B ∧ LoS.f z' = freF A B k fuel n us
 (addF A B k fuel n us f (us.length)) (LoS.i z') ∧ headU us (LoS.st z')) ∧ List.length B - LoS.i z' < List.length B - LoS.i z) ∧ 12 = 12 ∧ (10 = 10 ∧ 0 = 0) ∧ (11 = 11 ∧ 0 = 0) ∧ avM (slX 6 B) (slX 6 B) ∧ (IntKind.i64 = .i64 ∧ (↑(List.length B) : Int) = (↑(List.length B) : Int)) ∧ IntKind.i64 = .i64 ∧ (↑(LoS.i z) : Int) + (1 : Int) = (↑(LoS.i z') : Int)) ∧ (((((((((((((64 = 64 ∧ 9 = 9 ∧ (((((((avM (AV.xl false 4 (List.length A) fun i j => Enc.enc (List.getD A i Enc.dflt) j) (AV.xl false 4 (List.length A) fun i j => Enc.enc (List.getD A i Enc.dflt) j) ∧ avM (AV.xl false 6 (List.length B) fun i j
 => Enc.enc (List.getD B i Enc.dflt) j) (AV.xl false 6 (List.length B) fun i j => Enc.enc (List.getD B i Enc.dflt) j)) ∧ IntKind.i64 = .i64 ∧ k = k) ∧ 13 = 13 ∧ 0 = 0 ∧ us.length = us.length) ∧ 2 = 2 ∧ 0 = 0 ∧ List.length B = List.length B) ∧ IntKind.i64 = .i64 ∧ costU B us = costU B us) ∧ Fd.found (LoS.f z) = Fd.found (LoS.f z')) ∧ IntKind.i64 = .i64 ∧ Fd.least (LoS.f z) = Fd.least (LoS.f z')) ∧ avM (AV.xl false 3 (List.length (Fd.best (LoS.f z))) fun i j => Enc.enc (List.getD (Fd.best (LoS.f z)) i Enc.dflt) j) (AV.xl false 3 (List.length (Fd.best (LoS.f z'))) fun i j => Enc.enc (List.getD
 (Fd.best (LoS.f z')) i Enc.dflt) j)) ∧ True) ∧ 3 = 3 ∧ 1 = 1 ∧ List.length B = List.length B ∧ ∀ (i j : Nat), i < List.length B → j < 1 → IntKind.i64 = .i64 ∧ (↑(usedN us (i : Int)) : Int) = (↑(usedN us (i : Int)) : Int)) ∧ 60 = 60 ∧ 1 = 1 ∧ 0 = 0 ∧ 0 = 0) ∧ 3 = 3 ∧ 1 = 1 ∧ IntKind.i64 = .i64 ∧ (n : Int) = (n : Int)) ∧ 65 = 65 ∧ 1 = 1 ∧ avM (AV.fn (Fn.func (33 : FuncId)) 1 (fun (x : Nat) => AV.np 0 0) 0 fun (x : Nat) => AV.junk) (AV.fn (Fn.func (33 : FuncId)) 1 (fun (x : Nat) => AV.np 0 0) 0 fun (x : Nat) => AV.junk)) ∧ True) ∧ True) ∧ True) ∧ True) ∧ 73 = 73 ∧ 1 = 1 ∧ 0 = 0 ∧ 0 = 0) ∧ 3 = 3 ∧
 1 = 1 ∧ IntKind.i64 = .i64 ∧ (n : Int) = (n : Int)) ∧ LoopState.ready = LoopState.ready ∧ Non Code = Non Code) ∧ 50 = 50 ∧ 3 = 3 ∧ List.length (LoS.st z') = List.length (LoS.st z) ∧ ∀ (i j : Nat), i < List.length (LoS.st z) → j < 3 → avM (Enc.enc (List.getD (LoS.st z) i u0) j) (Enc.enc (List.getD (LoS.st z') i u0) j)) False))) False) False) False) False) False) False) False) False) False) False) False) False) False) False) (True ∧ ∃ (z_1 : SrS), ((SrS.f z_1 = fromF A B k (fuel + 1) n us f ∧ headU us (SrS.st z_1)) ∧ True) ∧ (((64 = 64 ∧ 9 = 9 ∧ (((((((avM (slX 4 A) (slX 4 A) ∧ avM (slX 6 B) (slX
 6 B)) ∧ IntKind.i64 = .i64 ∧ k = k) ∧ 3 = 3 ∧ 0 = 0 ∧ us.length = us.length) ∧ 2 = 2 ∧ 0 = 0 ∧ List.length B = List.length B) ∧ IntKind.i64 = .i64 ∧ costU B us = costU B us) ∧ Fd.found (LoS.f z) = Fd.found (SrS.f z_1)) ∧ IntKind.i64 = .i64 ∧ Fd.least (LoS.f z) = Fd.least (SrS.f z_1)) ∧ avM (slX 3 (Fd.best (LoS.f z))) (slX 3 (Fd.best (SrS.f z_1)))) ∧ True) ∧ 3 = 3 ∧ 1 = 1 ∧ List.length B = List.length B ∧ ∀ (i j : Nat), i < List.length B → j < 1 → IntKind.i64 = .i64 ∧ (↑(usedN us (i : Int)) : Int) = (↑(usedN us (i : Int)) : Int)) ∧ 50 = 50 ∧ 3 = 3 ∧ List.length (SrS.st z_1) = List.length (LoS.st
 z) ∧ ∀ (i j : Nat), i < List.length (LoS.st z) → j < 3 → avM (Enc.enc (List.getD (LoS.st z) i u0) j) (Enc.enc (List.getD (SrS.st z_1) i u0) j))))) False) False) False) False) False) False) False) False) False := by
  obtain ⟨f1, f2, f3, f4⟩ := hf
  simp only [Int.toNat_natCast] at f2 f3 f4
  have hlen : us.length ≤ 8 := by have := f4.len; omega
  have hcost := costU_bound hB (us := us) fun u hu => ⟨(f4.in_ u hu).1, (f4.in_ u hu).2.1⟩
  have e0 : (Enc.dflt : Int) = 0 := rfl
  have e1 : (Enc.dflt : Cut) = c0 := rfl
  have e2 : (Enc.dflt : Bar) = b0 := rfl
  have e3 : (Enc.dflt : Used) = u0 := rfl
  simp only [row_one]
  simp only [slX, slN, avM_refl, true_and, and_true, bsel_true, bsel_false, vc_own, bif_or, bif_and, vc_gdb, vc_db, vc_lt, vc_le, vc_ne, vc_eq, vc_tt, Int.toNat_natCast, Nat.zero_add, Nat.zero_le, Nat.sub_zero, agD_bar, agOk_bar, agD_bar', agOk_bar', agD_cut, agOk_cut, agD_cut', agOk_cut', agD_used, agOk_used, agD_used', agOk_used', int_i, Bool.or_true, cond_true, cond_false, okC, okC', deC, deC', okB, deB, okB', deB', okIn, okIn', deI, deI', okU, okU', deU, deU', okBl, deBl, okUl, deUl, deIo, cutsOf_sl, deUo, okBf, deBf, e0, e1, e2, e3, ltB_nat, pred_nat, okApp, deApp, deAppI, okOne, deOne, deOneI]
  simp only [vc_b]
  have hs' : (f.found && leB f.least (costU B us)) = stopF B us f := rfl
  simp only [hs']
  have hT1 : ∀ i j : Nat, i < B.length → j < 1 → True := fun _ _ _ _ => trivial
  have hT : ∀ (m : Nat), ∀ i j : Nat, i < m → j < 3 → True := fun _ _ _ _ _ => trivial
  have both : ∀ {P : Prop}, P → P ∧ P := fun h => ⟨h, h⟩
  cases hs : stopF B us f with
  | true =>
    simp only [vc_tt]
    exact ⟨⟨f, st⟩, ⟨by rw [fromF_step, hs]; rfl, hu⟩, ⟨⟨⟨rfl, rfl⟩, avM_refl _⟩, fun _ _ _ _ => trivial⟩, rfl, fun _ _ _ _ => avM_refl _⟩
  | false =>
    simp only [vc_ff]
    refine ⟨fun hn => ?_, fun hn => ?_⟩
    · have hn' : n = A.length := by omega
      refine ⟨⟨0, ⟨Nat.zero_le _, rfl⟩, ⟨⟨rfl, hT _⟩, hT1⟩, rfl⟩, fun z hz => ⟨fun hlt => ?_, fun hge => ?_⟩⟩
      · have hlt' : z < us.length := by omega
        have e : st.getD z u0 = us.getD z u0 := hu.at hlt'
        have hm := getD_mem hlt'
        have q1 := f4.ps _ hm
        have q2 := f4.at_ _ hm
        rw [e]
        refine ⟨⟨by omega, hlt⟩, by omega, by omega, both ⟨by omega, ⟨by omega, by omega⟩, z + 1, ⟨⟨by omega, by omega⟩, rfl⟩, ⟨⟨rfl, hT _⟩, hT1⟩, rfl, fun i j hi hj => ?_⟩⟩
        split
        · exact avM_refl _
        · obtain rfl : i = z := by omega
          exact usedRow _ hj
      · obtain rfl : z = us.length := by omega
        exact ⟨⟨⟨true, costU B us, us⟩, st⟩, ⟨by rw [fromF_step, hs, hn', Nat.beq_refl]; simp only [cond_false, cond_true, keepF, hs], hu⟩, ⟨⟨⟨rfl, rfl⟩, avM_refl _⟩, hT1⟩, rfl, fun _ _ _ _ => avM_refl _⟩
    · have hn' : n < A.length := by omega
      have hfr : fromF A B k (fuel + 1) n us f = freF A B k fuel n us (addF A B k fuel n us f us.length) B.length := by
        rw [fromF_step, hs, show Nat.beq n A.length = false from Bool.eq_false_iff.2 fun h => by have := Nat.eq_of_beq_eq_true h; omega]; rfl
      refine ⟨⟨⟨(), ⟨hT _, hT1⟩, ?_⟩, fun _ _ => ⟨⟨⟨0, f, st⟩, ⟨⟨Nat.zero_le _, rfl, hu⟩, rfl⟩, ⟨⟨⟨rfl, rfl⟩, avM_refl _⟩, hT1⟩, rfl, fun _ _ _ _ => avM_refl _⟩, fun z ⟨z1, z2, z3⟩ => ⟨fun hlt => ?_, fun hge => ?_⟩⟩⟩,
        fun z ⟨z1, z2⟩ => ⟨⟨⟨0, z.f, z.st⟩, ⟨⟨Nat.zero_le _, z1, z2⟩, rfl⟩, ⟨⟨⟨rfl, rfl⟩, avM_refl _⟩, hT1⟩, rfl, fun _ _ _ _ => avM_refl _⟩, fun z' ⟨y1, y2, y3⟩ => ⟨fun hlt => ?_, fun hge => ?_⟩⟩⟩
      · exact ⟨rfl, rfl, rfl, avM_refl (AV.np 0 0), trivial⟩
      · have hi : z.i < us.length := by omega
        have hz : z.st.getD z.i u0 = us.getD z.i u0 := z3.at hi
        have hm := getD_mem hi
        have hb := f4.in_ _ hm
        have q1 := f4.ps _ hm
        have q2 := f4.at_ _ hm
        refine ⟨⟨⟨by omega, hlt⟩, us.getD z.i u0, rfl, ⟨hT1, hT _⟩, ⟨by rw [hz], by rw [hz]; exact avM_refl _⟩, by rw [hz]; exact avM_refl _⟩, fun u hu' => ?_⟩
        obtain rfl := hu'
        refine ⟨⟨by omega, by omega⟩, ⟨hb.1, by omega⟩, ?_⟩
        have skip : withU A B k (us.getD z.i u0) n = none → z.f = addF A B k fuel n us f (z.i + 1) := fun hw => by
          rw [addF_succ, hw]; exact z2
        have go : z.f = addF A B k fuel n us f (z.i + 1) → (inK .i64 ((z.i : Int) + 1) ∧ ∃ z' : LoS, (((z'.i ≤ us.length ∧ z'.f = addF A B k fuel n us f z'.i ∧ headU us z'.st) ∧ us.length - z'.i < us.length - z.i) ∧ (z.i : Int) + 1 = z'.i) ∧
            (((z.f.found = z'.f.found ∧ z.f.least = z'.f.least) ∧ avM (AV.xl false 3 z.f.best.length fun i j => Enc.enc (z.f.best.getD i u0) j) (AV.xl false 3 z'.f.best.length fun i j => Enc.enc (z'.f.best.getD i u0) j)) ∧ ∀ i j : Nat, i < B.length → j < 1 → True) ∧
            z'.st.length = z.st.length ∧ ∀ i j : Nat, i < z.st.length → j < 3 → avM (Enc.enc (z.st.getD i u0) j) (Enc.enc (z'.st.getD i u0) j)) := fun hw =>
          ⟨⟨by omega, by omega⟩, ⟨z.i + 1, z.f, z.st⟩, ⟨⟨⟨by show z.i + 1 ≤ _; omega, hw, z3⟩, by show us.length - (z.i + 1) < _; omega⟩, rfl⟩, ⟨⟨⟨rfl, rfl⟩, avM_refl _⟩, hT1⟩, rfl, fun _ _ _ _ => avM_refl _⟩
        cases hsec : sectB (A.getD n c0) (B.getD (us.getD z.i u0).bar.toNat b0) with
        | false =>
          simp only [Bool.not_false, vc_tt]
          exact go (skip (by unfold withU barAt; rw [hsec]; rfl))
        | true =>
          simp only [Bool.not_true, vc_ff]
          refine ⟨⟨⟨hb.1, by omega⟩, by omega, by omega, ?_, ⟨fitsAt (barAt B (us.getD z.i u0)) (lensL A ((us.getD z.i u0).ps ++ [(n : Int)])) k, fitsOk (barAt B (us.getD z.i u0)) (lensL A ((us.getD z.i u0).ps ++ [(n : Int)])) k⟩, ⟨⟨rfl, rfl⟩, avM_refl _, rfl⟩, hT1, hT _⟩, fun zz ⟨p1, p2⟩ => ?_⟩
          · rw [Bool.and_eq_true]
            refine ⟨List.all_eq_true.2 fun p hp => ?_, (blt_iff _ _).2 (by simp only [List.length_append, List.length_singleton]; omega)⟩
            rw [Bool.and_eq_true, leB_iff, ltB_iff]
            rcases List.mem_append.1 hp with hp | hp
            · have := hb.2.2 p hp; omega
            · rw [List.mem_singleton] at hp; omega
          cases hok : zz.is with
          | false =>
            simp only [vc_ff]
            exact go (skip (by unfold withU; rw [← p1, hok, Bool.and_false]; rfl))
          | true =>
            simp only [vc_tt]
            have hw : withU A B k (us.getD z.i u0) n = some (putU us z.i n zz.at_) := by
              unfold withU barAt
              rw [hsec]
              unfold barAt at p1 p2
              rw [← p1, hok, p2]
              rfl
            have hat : zz.at_.length = (us.getD z.i u0).ps.length + 1 := by
              rw [p2, fitsAt_len (by rw [← p1, hok])]
              simp [lensL]
            refine ⟨⟨⟨by omega, hlt⟩, us.getD z.i u0, rfl, ⟨hT1, hT _⟩, ⟨by rw [hz], by rw [hz]; exact avM_refl _⟩, by rw [hz]; exact avM_refl _⟩, fun u hu' => ?_⟩
            obtain rfl := hu'
            refine ⟨⟨by omega, by omega, ⟨by omega, hlt⟩, z.st.set z.i (putU us z.i n zz.at_), z3.set _ _, hT1, by simp, fun i j hi' hj => ?_⟩, fun z4 hz4 => ⟨⟨by omega, by omega⟩, us.set z.i (putU us z.i n zz.at_), z4, z.f, ⟨?_, ⟨by simp, hz4⟩, ⟨rfl, fun _ _ _ _ => avM_refl _⟩, ⟨rfl, fun j _ => ?_⟩, ?_⟩, fun f' st' ⟨g1, g2⟩ => ?_⟩⟩
            · rw [getD_setU _ hi']
              by_cases e : i = z.i
              · rw [if_pos ⟨e, hj⟩, if_pos e]
                exact putRow _ _ _ hj
              · rw [if_neg fun h => e h.1, if_neg e]
                exact avM_refl _
            · rw [costU_set hi hw]; exact Wk.refl _
            · rw [usedN_set (v := putU us z.i n zz.at_) hi rfl]; exact avM_refl _
            · have := f4.put hi hat
              exact ⟨by omega, by omega, by omega, by rw [show ((n : Int) + 1).toNat = n + 1 by omega]; exact this⟩
            · rw [show ((n : Int) + 1).toNat = n + 1 by omega] at g1
              have hst := headU.back hi g2
              refine ⟨⟨by omega, by rw [List.length_set]; exact hlt⟩, ⟨by omega, by omega⟩, ⟨z.i + 1, f', st'.set z.i (us.getD z.i u0)⟩, ⟨⟨⟨by show z.i + 1 ≤ _; omega, ?_, hst⟩, by show us.length - (z.i + 1) < _; omega⟩, rfl⟩, ⟨⟨⟨⟨⟨by simp, costU_set hi hw⟩, rfl⟩, rfl⟩, avM_refl _⟩, fun i j _ _ => by rw [usedN_set (v := putU us z.i n zz.at_) hi rfl]⟩, by simp, fun i j hi' hj => ?_⟩
              · show f' = addF A B k fuel n us f (z.i + 1)
                rw [addF_succ, hw, g1, z2]
              · show avM _ (Enc.enc ((st'.set z.i (us.getD z.i u0)).getD i u0) j)
                rw [getD_setU _ hi']
                by_cases e : i = z.i
                · rw [if_pos ⟨e, hj⟩, if_pos e]
                  exact avM_refl _
                · rw [if_neg fun h => e h.1, if_neg e]
                  exact avM_refl _
      · have e : z.i = us.length := by omega
        exact ⟨⟨z.f, z.st⟩, ⟨by rw [z2, e], z3⟩, ⟨⟨⟨rfl, rfl⟩, avM_refl _⟩, hT1⟩, rfl, fun _ _ _ _ => avM_refl _⟩
      · have hi : z'.i < B.length := by omega
        have hbm := barE_gaps (hB _ (getD_memB hi))
        have hc := hbm.2.2.2.2.2.2.2.2
        have hun := usedN_len us (z'.i : Int)
        refine ⟨⟨⟨by omega, hlt⟩, B.getD z'.i b0, rfl, ⟨hT1, hT _⟩, ⟨⟨⟨⟨rfl, rfl⟩, rfl⟩, rfl⟩, rfl⟩, avM_refl _⟩, fun b hb' => ?_⟩
        obtain rfl := hb'
        refine ⟨⟨by omega, by omega⟩, fun _ => ⟨by omega, hlt⟩, ?_⟩
        have hbar : barAt B ⟨(z'.i : Int), [], []⟩ = B.getD z'.i b0 := by unfold barAt; simp
        have go : z'.f = freF A B k fuel n us (addF A B k fuel n us f us.length) (z'.i + 1) → (inK .i64 ((z'.i : Int) + 1) ∧ ∃ z2 : LoS, (((z2.i ≤ B.length ∧ z2.f = freF A B k fuel n us (addF A B k fuel n us f us.length) z2.i ∧ headU us z2.st) ∧ B.length - z2.i < B.length - z'.i) ∧ (z'.i : Int) + 1 = z2.i) ∧
            (((z'.f.found = z2.f.found ∧ z'.f.least = z2.f.least) ∧ avM (AV.xl false 3 z'.f.best.length fun i j => Enc.enc (z'.f.best.getD i u0) j) (AV.xl false 3 z2.f.best.length fun i j => Enc.enc (z2.f.best.getD i u0) j)) ∧ ∀ i j : Nat, i < B.length → j < 1 → True) ∧
            z2.st.length = z'.st.length ∧ ∀ i j : Nat, i < z'.st.length → j < 3 → avM (Enc.enc (z'.st.getD i u0) j) (Enc.enc (z2.st.getD i u0) j)) := fun hw =>
          ⟨⟨by omega, by omega⟩, ⟨z'.i + 1, z'.f, z'.st⟩, ⟨⟨⟨by show z'.i + 1 ≤ _; omega, hw, y3⟩, by show B.length - (z'.i + 1) < _; omega⟩, rfl⟩, ⟨⟨⟨rfl, rfl⟩, avM_refl _⟩, hT1⟩, rfl, fun _ _ _ _ => avM_refl _⟩
        have skip : freshU A B k us n z'.i = none → z'.f = freF A B k fuel n us (addF A B k fuel n us f us.length) (z'.i + 1) := fun hw => by
          rw [freF_succ, hw]; exact y2
        cases hsec : sectB (A.getD n c0) (B.getD z'.i b0) with
        | false =>
          simp only [Bool.not_false, Bool.true_or, vc_tt]
          refine go (skip ?_)
          unfold freshU withU
          rw [hbar, hsec, Bool.false_and]
          cases freeB B us z'.i <;> rfl
        | true =>
          simp only [Bool.not_true, Bool.false_or, vc_le]
          refine ⟨fun hle => go (skip ?_), fun hlt2 => ⟨⟨?_, ⟨fitsAt (B.getD z'.i b0) (lensL A [(n : Int)]) k, fitsOk (B.getD z'.i b0) (lensL A [(n : Int)]) k⟩, ⟨⟨by rw [hbar]; rfl, by rw [hbar]; rfl⟩, avM_refl _, rfl⟩, hT1, hT _⟩, fun zz ⟨p1, p2⟩ => ?_⟩⟩
          · unfold freshU freeB
            rw [show ltB (usedN us (z'.i : Int) : Int) (B.getD z'.i b0).n = false by rw [Bool.eq_false_iff]; intro h; rw [ltB_iff] at h; omega]
            rfl
          · rw [Bool.and_eq_true]
            refine ⟨List.all_eq_true.2 fun p hp => ?_, rfl⟩
            rw [List.mem_singleton] at hp
            rw [Bool.and_eq_true, leB_iff, ltB_iff]
            omega
          have hfree : freeB B us z'.i = true := by unfold freeB; rw [ltB_iff]; omega
          rw [hbar] at p1 p2
          simp only [List.nil_append] at p1 p2
          cases hok : zz.is with
          | false =>
            simp only [vc_ff]
            refine go (skip ?_)
            unfold freshU withU
            rw [hfree, hbar, hsec]
            simp only [List.nil_append]
            rw [← p1, hok]
            rfl
          | true =>
            simp only [vc_tt]
            have hw : freshU A B k us n z'.i = some ⟨(z'.i : Int), [(n : Int)], zz.at_⟩ := by
              unfold freshU withU
              rw [hfree, hbar, hsec]
              simp only [List.nil_append]
              rw [← p1, hok, p2]
              rfl
            have hat : zz.at_.length = 1 := by
              rw [p2, fitsAt_len (by rw [← p1, hok])]
              rfl
            have hN : ∀ i : Nat, (usedN (us ++ [⟨(z'.i : Int), [(n : Int)], zz.at_⟩]) (i : Int) : Int) = usedN us (i : Int) + if i = z'.i then 1 else 0 := fun i => by
              rw [usedN_app]
              by_cases e : i = z'.i
              · rw [if_pos (by rw [e]), if_pos e]; rfl
              · rw [if_neg (show ¬ ((z'.i : Int) = (i : Int)) by omega), if_neg e]; rfl
            have hC : costU B (us ++ [⟨(z'.i : Int), [(n : Int)], zz.at_⟩]) = costU B us + (B.getD z'.i b0).c := by
              rw [costU_append]; unfold barAt; simp
            refine ⟨⟨by omega, ⟨by omega, hlt⟩, ⟨by omega, by omega⟩, ⟨by omega, hlt⟩, (), fun i j hi' hj => ?_, fun i j hi' hj => ?_⟩, fun _ _ => ⟨⟨by omega, hlt⟩, ⟨by omega, by omega⟩, ⟨by omega, by omega⟩, us ++ [⟨(z'.i : Int), [(n : Int)], zz.at_⟩], us ++ [⟨(z'.i : Int), [(n : Int)], zz.at_⟩], z'.f,
              ⟨?_, ⟨by simp, headU.refl _⟩, ⟨by simp, fun _ _ _ _ => avM_refl _⟩, ⟨rfl, fun j _ => avM_refl _⟩, ?_⟩, fun f' st' ⟨g1, g2⟩ => ?_⟩⟩
            · rw [hN]
              by_cases e : i = z'.i
              · rw [if_pos ⟨e, hj⟩, if_pos e, e]; exact avM_refl _
              · rw [if_neg fun h => e h.1, if_neg e, Int.add_zero]; exact avM_refl _
            · split
              · rename_i h
                rw [getD_app_left _ _ h, y3.at h]; exact avM_refl _
              · rename_i h
                rw [getD_app_last _ _ h hi']; exact newRow _ _ _ hj
            · rw [hC]; exact Wk.refl _
            · have := f4.new hi hat
              exact ⟨by omega, by omega, by omega, by rw [show ((n : Int) + 1).toNat = n + 1 by omega]; exact this⟩
            · rw [show ((n : Int) + 1).toNat = n + 1 by omega] at g1
              have hL : (us ++ [(⟨(z'.i : Int), [(n : Int)], zz.at_⟩ : Used)]).length = us.length + 1 := by simp
              rw [hL, hC, hN, if_pos rfl]
              refine ⟨⟨by omega, hlt⟩, ⟨by omega, by omega⟩, ⟨by omega, hlt⟩, ⟨by omega, by omega⟩, ⟨by omega, hlt⟩, ⟨by omega, by omega⟩, ⟨by omega, by omega⟩, ⟨by omega, by omega⟩, ⟨z'.i + 1, f', st'⟩, ⟨⟨⟨by show z'.i + 1 ≤ _; omega, ?_, g2.app⟩, by show B.length - (z'.i + 1) < _; omega⟩, rfl⟩, ⟨⟨⟨⟨⟨by omega, by omega⟩, rfl⟩, rfl⟩, avM_refl _⟩, fun i j hi' hj => ?_⟩, rfl, fun _ _ _ _ => avM_refl _⟩
              · show f' = freF A B k fuel n us (addF A B k fuel n us f us.length) (z'.i + 1)
                rw [freF_succ, hw, g1, y2]
              · rw [hN]
                by_cases e : i = z'.i
                · rw [if_pos ⟨e, hj⟩, e]
                  refine avM_of_eq ?_
                  congr 2
                  omega
                · rw [if_neg fun h => e h.1, if_neg e, Int.add_zero]; exact avM_refl _
      · have e : z'.i = B.length := by omega
        exact ⟨⟨z'.f, z'.st⟩, ⟨by rw [y2, e, hfr], y3⟩, ⟨⟨⟨rfl, rfl⟩, avM_refl _⟩, hT1⟩, rfl, fun _ _ _ _ => avM_refl _⟩
end Go.Tz
