/- The search for the best nest, as a plain function, and what it finds. -/
import Derived.Test.YtojonobehnbeiaaGreatDoorTzCd
namespace Go.Tz
open Go Go.Sx Go.Proofs
abbrev c0 : Cut := ⟨0, 0, 0, []⟩
abbrev b0 : Bar := ⟨0, 0, 0, 0, 0, []⟩
abbrev u0 : Used := ⟨0, [], []⟩
def laysB (A : List Cut) (b : Bar) (ps : List Int) (k : Int) : Bool := fitsOk b (lensL A ps) k
def withU (A : List Cut) (B : List Bar) (k : Int) (u : Used) (n : Nat) : Option Used :=
  bif sectB (A.getD n c0) (barAt B u) && fitsOk (barAt B u) (lensL A (u.ps ++ [(n : Int)])) k then
    some ⟨u.bar, u.ps ++ [(n : Int)], fitsAt (barAt B u) (lensL A (u.ps ++ [(n : Int)])) k⟩ else none
def costU (B : List Bar) (us : List Used) : Int := (us.map fun u => (barAt B u).c).sum
structure Fd where
  found : Bool
  least : Int
  best : List Used
def stopF (B : List Bar) (us : List Used) (f : Fd) : Bool := f.found && leB f.least (costU B us)
def keepF (B : List Bar) (us : List Used) (f : Fd) : Fd := bif stopF B us f then f else ⟨true, costU B us, us⟩
def freeB (B : List Bar) (us : List Used) (j : Nat) : Bool := ltB (usedN us (j : Int) : Int) (B.getD j b0).n
def freshU (A : List Cut) (B : List Bar) (k : Int) (us : List Used) (n j : Nat) : Option Used := bif freeB B us j then withU A B k ⟨(j : Int), [], []⟩ n else none
def fromF (A : List Cut) (B : List Bar) (k : Int) : Nat → Nat → List Used → Fd → Fd
  | 0, _, _, f => f
  | fuel + 1, n, us, f =>
    bif stopF B us f then f
    else bif Nat.beq n A.length then keepF B us f
    else
      (List.range B.length).foldl (fun f j => match freshU A B k us n j with | some u => fromF A B k fuel (n + 1) (us ++ [u]) f | none => f)
        ((List.range us.length).foldl (fun f i => match withU A B k (us.getD i u0) n with | some u => fromF A B k fuel (n + 1) (us.set i u) f | none => f) f)
inductive Fin (A : List Cut) (B : List Bar) (k : Int) : Nat → List Used → List Used → Prop
  | done (us) : Fin A B k A.length us us
  | add {n us us' i u} (hn : n < A.length) (hi : i < us.length) (hw : withU A B k (us.getD i u0) n = some u) (h : Fin A B k (n + 1) (us.set i u) us') : Fin A B k n us us'
  | fresh {n us us' j u} (hn : n < A.length) (hj : j < B.length) (hw : freshU A B k us n j = some u) (h : Fin A B k (n + 1) (us ++ [u]) us') : Fin A B k n us us'
structure Qs (B : List Bar) (S : List Used → Prop) (f f' : Fd) : Prop where
  keep : f.found = true → f'.found = true ∧ f'.least ≤ f.least
  all : ∀ us, S us → f'.found = true ∧ f'.least ≤ costU B us
  from_ : f' = f ∨ ∃ us, S us ∧ f' = ⟨true, costU B us, us⟩
theorem Qs.none {B : List Bar} {S : List Used → Prop} {f : Fd} (h : ∀ us, ¬ S us) : Qs B S f f := ⟨fun h => ⟨h, Int.le_refl _⟩, fun us hu => absurd hu (h us), .inl rfl⟩
theorem Qs.trans {B : List Bar} {S T : List Used → Prop} {f g h : Fd} (h1 : Qs B S f g) (h2 : Qs B T g h) : Qs B (fun us => S us ∨ T us) f h := by
  refine ⟨fun hf => ?_, fun us hu => ?_, ?_⟩
  · obtain ⟨a, b⟩ := h1.keep hf
    obtain ⟨c, d⟩ := h2.keep a
    exact ⟨c, by omega⟩
  · rcases hu with hu | hu
    · obtain ⟨a, b⟩ := h1.all us hu
      obtain ⟨c, d⟩ := h2.keep a
      exact ⟨c, by omega⟩
    · exact h2.all us hu
  · rcases h2.from_ with e | ⟨us, hu, e⟩
    · rcases h1.from_ with e' | ⟨us, hu, e'⟩
      · exact .inl (e.trans e')
      · exact .inr ⟨us, .inl hu, e.trans e'⟩
    · exact .inr ⟨us, .inr hu, e⟩
theorem Qs.mono {B : List Bar} {S T : List Used → Prop} {f g : Fd} (h : Qs B S f g) (hST : ∀ us, S us ↔ T us) : Qs B T f g :=
  ⟨h.keep, fun us hu => h.all us ((hST us).2 hu), h.from_.imp id fun ⟨us, hu, e⟩ => ⟨us, (hST us).1 hu, e⟩⟩
theorem Qs.fold' {B : List Bar} {g : Fd → Nat → Fd} {S : Nat → List Used → Prop} : ∀ {m : Nat}, (∀ i, i < m → ∀ f, Qs B (S i) f (g f i)) → ∀ f, Qs B (fun us => ∃ i, i < m ∧ S i us) f ((List.range m).foldl g f)
  | 0, _, _ => .none fun us ⟨i, hi, _⟩ => by omega
  | m + 1, hm, f => by
    rw [List.range_succ, List.foldl_append]
    refine ((Qs.fold' (fun i hi => hm i (by omega)) f).trans (hm m (by omega) _)).mono fun us => ?_
    constructor
    · rintro (⟨i, hi, hs⟩ | hs)
      · exact ⟨i, by omega, hs⟩
      · exact ⟨m, by omega, hs⟩
    · rintro ⟨i, hi, hs⟩
      by_cases e : i = m
      · subst e; exact .inr hs
      · exact .inl ⟨i, by omega, hs⟩
def GoodB (B : List Bar) : Prop := ∀ b ∈ B, barE b = 0
theorem GoodB.c {B : List Bar} (h : GoodB B) (u : Used) : 0 ≤ (barAt B u).c := by
  unfold barAt
  by_cases hu : u.bar.toNat < B.length
  · rw [List.getD_eq_getElem?_getD, List.getElem?_eq_getElem hu]
    exact (barE_gaps (h _ (List.getElem_mem hu))).2.2.2.2.2.2.2.2.1
  · rw [List.getD_eq_getElem?_getD, List.getElem?_eq_none (by omega)]
    exact Int.le_refl _
theorem sum_nonneg : ∀ {l : List Int}, (∀ x ∈ l, 0 ≤ x) → 0 ≤ l.sum
  | [], _ => by simp
  | x :: l, h => by
    have := sum_nonneg (l := l) fun y hy => h y (List.mem_cons_of_mem _ hy)
    have := h x List.mem_cons_self
    rw [List.sum_cons]; omega
theorem costU_append (B : List Bar) (us : List Used) (u : Used) : costU B (us ++ [u]) = costU B us + (barAt B u).c := by simp [costU]
theorem map_set_same {α β : Type} (f : α → β) : ∀ (l : List α) (i : Nat) (a d : α), i < l.length → f a = f (l.getD i d) → (l.set i a).map f = l.map f
  | [], _, _, _, h, _ => by simp at h
  | x :: l, 0, a, d, _, h => by simpa using h
  | x :: l, i + 1, a, d, h1, h2 => by
    simp only [List.set_cons_succ, List.map_cons]
    rw [map_set_same f l i a d (by simpa using h1) (by simpa using h2)]
theorem withU_bar {A : List Cut} {B : List Bar} {k : Int} {u v : Used} {n : Nat} (h : withU A B k u n = some v) : v.bar = u.bar ∧ v.ps = u.ps ++ [(n : Int)] := by
  unfold withU at h
  cases hc : sectB (A.getD n c0) (barAt B u) && fitsOk (barAt B u) (lensL A (u.ps ++ [(n : Int)])) k with
  | false => rw [hc] at h; cases h
  | true => rw [hc] at h; cases h; exact ⟨rfl, rfl⟩
theorem costU_set {A : List Cut} {B : List Bar} {k : Int} {us : List Used} {i n : Nat} {u : Used} (hi : i < us.length) (h : withU A B k (us.getD i u0) n = some u) : costU B (us.set i u) = costU B us := by
  unfold costU
  rw [map_set_same _ us i u u0 hi (by unfold barAt; rw [(withU_bar h).1])]
theorem Fin.cost {A : List Cut} {B : List Bar} {k : Int} (hB : GoodB B) {n : Nat} {us us' : List Used} (h : Fin A B k n us us') : costU B us ≤ costU B us' := by
  induction h with
  | done us => exact Int.le_refl _
  | add hn hi hw h ih => rw [costU_set hi hw] at ih; exact ih
  | @fresh n us us' j u hn hj hw h ih =>
    rw [costU_append] at ih
    have := hB.c u
    omega
theorem Fin.le {A : List Cut} {B : List Bar} {k : Int} {n : Nat} {us us' : List Used} (h : Fin A B k n us us') : n ≤ A.length := by
  cases h with
  | done => exact Nat.le_refl _
  | add hn => omega
  | fresh hn => omega
theorem Fin.end_ {A : List Cut} {B : List Bar} {k : Int} {us us' : List Used} (h : Fin A B k A.length us us') : us' = us := by
  cases h with
  | done => rfl
  | add hn => exact absurd hn (Nat.lt_irrefl _)
  | fresh hn => exact absurd hn (Nat.lt_irrefl _)
theorem stopF_iff (B : List Bar) (us : List Used) (f : Fd) : stopF B us f = true ↔ f.found = true ∧ f.least ≤ costU B us := by
  unfold stopF
  rw [Bool.and_eq_true, leB_iff]
theorem from_ok {A : List Cut} {B : List Bar} {k : Int} (hB : GoodB B) : ∀ (fuel n : Nat) (us : List Used) (f : Fd), A.length < fuel + n → n ≤ A.length → Qs B (Fin A B k n us) f (fromF A B k fuel n us f)
  | 0, n, us, f, h1, h2 => by omega
  | fuel + 1, n, us, f, h1, h2 => by
    unfold fromF
    cases hs : stopF B us f with
    | true =>
      obtain ⟨s1, s2⟩ := (stopF_iff B us f).1 hs
      exact ⟨fun h => ⟨h, Int.le_refl _⟩, fun us' hu => ⟨s1, Int.le_trans s2 (hu.cost hB)⟩, .inl rfl⟩
    | false =>
    simp only [cond_false]
    cases hn : Nat.beq n A.length with
    | true =>
      obtain rfl := Nat.eq_of_beq_eq_true hn
      simp only [cond_true, keepF, hs, cond_false]
      refine ⟨fun hf => ⟨rfl, ?_⟩, fun us' hu => ⟨rfl, (hu.cost hB)⟩, .inr ⟨us, .done us, rfl⟩⟩
      show costU B us ≤ f.least
      by_cases hl : f.least ≤ costU B us
      · rw [(stopF_iff B us f).2 ⟨hf, hl⟩] at hs; cases hs
      · omega
    | false =>
    have hlt : n < A.length := by
      have : n ≠ A.length := fun e => by rw [e, Nat.beq_refl] at hn; cases hn
      omega
    simp only [cond_false]
    have h3 : ∀ i, i < us.length → ∀ f, Qs B (fun us' => ∃ u, withU A B k (us.getD i u0) n = some u ∧ Fin A B k (n + 1) (us.set i u) us') f
        (match withU A B k (us.getD i u0) n with | some u => fromF A B k fuel (n + 1) (us.set i u) f | none => f) := fun i hi f => by
      cases hw : withU A B k (us.getD i u0) n with
      | none => exact .none fun us' ⟨u, hu, _⟩ => by cases hu
      | some u =>
        refine (from_ok hB fuel (n + 1) (us.set i u) f (by omega) (by omega)).mono fun us' => ?_
        simp
    have h4 : ∀ j, j < B.length → ∀ f, Qs B (fun us' => ∃ u, freshU A B k us n j = some u ∧ Fin A B k (n + 1) (us ++ [u]) us') f
        (match freshU A B k us n j with | some u => fromF A B k fuel (n + 1) (us ++ [u]) f | none => f) := fun j hj f => by
      cases hw : freshU A B k us n j with
      | none => exact .none fun us' ⟨u, hu, _⟩ => by cases hu
      | some u =>
        refine (from_ok hB fuel (n + 1) (us ++ [u]) f (by omega) (by omega)).mono fun us' => ?_
        simp
    refine ((Qs.fold' h3 f).trans (Qs.fold' h4 _)).mono fun us' => ?_
    constructor
    · rintro (⟨i, hi, u, hw, h⟩ | ⟨j, hj, u, hw, h⟩)
      · exact .add hlt hi hw h
      · exact .fresh hlt hj hw h
    · intro h
      cases h with
      | done => exact absurd hlt (Nat.lt_irrefl _)
      | add _ hi hw h => exact .inl ⟨_, hi, _, hw, h⟩
      | fresh _ hj hw h => exact .inr ⟨_, hj, _, hw, h⟩
def addF (A : List Cut) (B : List Bar) (k : Int) (fuel n : Nat) (us : List Used) (f : Fd) (m : Nat) : Fd :=
  (List.range m).foldl (fun f i => match withU A B k (us.getD i u0) n with | some u => fromF A B k fuel (n + 1) (us.set i u) f | none => f) f
def freF (A : List Cut) (B : List Bar) (k : Int) (fuel n : Nat) (us : List Used) (f : Fd) (m : Nat) : Fd :=
  (List.range m).foldl (fun f j => match freshU A B k us n j with | some u => fromF A B k fuel (n + 1) (us ++ [u]) f | none => f) f
theorem addF_succ (A : List Cut) (B : List Bar) (k : Int) (fuel n : Nat) (us : List Used) (f : Fd) (m : Nat) :
    addF A B k fuel n us f (m + 1) = match withU A B k (us.getD m u0) n with | some u => fromF A B k fuel (n + 1) (us.set m u) (addF A B k fuel n us f m) | none => addF A B k fuel n us f m := by
  unfold addF; rw [List.range_succ, List.foldl_append]; rfl
theorem freF_succ (A : List Cut) (B : List Bar) (k : Int) (fuel n : Nat) (us : List Used) (f : Fd) (m : Nat) :
    freF A B k fuel n us f (m + 1) = match freshU A B k us n m with | some u => fromF A B k fuel (n + 1) (us ++ [u]) (freF A B k fuel n us f m) | none => freF A B k fuel n us f m := by
  unfold freF; rw [List.range_succ, List.foldl_append]; rfl
theorem fromF_step (A : List Cut) (B : List Bar) (k : Int) (fuel n : Nat) (us : List Used) (f : Fd) :
    fromF A B k (fuel + 1) n us f = bif stopF B us f then f else bif Nat.beq n A.length then keepF B us f else freF A B k fuel n us (addF A B k fuel n us f us.length) B.length := by
  rw [fromF]; rfl
end Go.Tz

/- More bars, or a piece less: the least cost does not become greater. -/
namespace Go.Tz
open Go Go.Sx Go.Proofs
def InU (m n : Nat) (us : List Used) : Prop := ∀ u ∈ us, 0 ≤ u.bar ∧ u.bar < m ∧ ∀ p ∈ u.ps, 0 ≤ p ∧ p < n
theorem InU.get {m n : Nat} {us : List Used} (h : InU m n us) {i : Nat} (hi : i < us.length) : us.getD i u0 ∈ us := by
  rw [List.getD_eq_getElem?_getD, List.getElem?_eq_getElem hi]
  exact List.getElem_mem hi
theorem InU.put {m n : Nat} {us : List Used} (h : InU m n us) {i : Nat} (hi : i < us.length) {A : List Cut} {B : List Bar} {k : Int} {u : Used} (hw : withU A B k (us.getD i u0) n = some u) : InU m (n + 1) (us.set i u) := by
  intro v hv
  have key : ∀ x ∈ us, 0 ≤ x.bar ∧ x.bar < m ∧ ∀ p ∈ x.ps, 0 ≤ p ∧ p < (n + 1 : Nat) := fun x hx => by
    obtain ⟨a, b, c⟩ := h x hx
    exact ⟨a, b, fun p hp => by have := c p hp; omega⟩
  rcases List.mem_or_eq_of_mem_set hv with hv | rfl
  · exact key v hv
  · obtain ⟨e1, e2⟩ := withU_bar hw
    obtain ⟨a, b, c⟩ := key _ (h.get hi)
    rw [e1, e2]
    refine ⟨a, b, fun p hp => ?_⟩
    rcases List.mem_append.1 hp with hp | hp
    · exact c p hp
    · rw [List.mem_singleton] at hp; omega
theorem freshU_some {A : List Cut} {B : List Bar} {k : Int} {us : List Used} {n j : Nat} {u : Used} (h : freshU A B k us n j = some u) : freeB B us j = true ∧ withU A B k ⟨(j : Int), [], []⟩ n = some u := by
  unfold freshU at h
  cases hc : freeB B us j with
  | false => rw [hc] at h; cases h
  | true => rw [hc] at h; exact ⟨rfl, h⟩
theorem InU.new {m n : Nat} {us : List Used} (h : InU m n us) {j : Nat} (hj : j < m) {A : List Cut} {B : List Bar} {k : Int} {u : Used} (hw : freshU A B k us n j = some u) : InU m (n + 1) (us ++ [u]) := by
  intro v hv
  rcases List.mem_append.1 hv with hv | hv
  · obtain ⟨a, b, c⟩ := h v hv
    exact ⟨a, b, fun p hp => by have := c p hp; omega⟩
  · rw [List.mem_singleton] at hv
    subst hv
    obtain ⟨e1, e2⟩ := withU_bar (freshU_some hw).2
    rw [e1, e2]
    refine ⟨by simp only; omega, by simp only; omega, fun p hp => ?_⟩
    simp only [List.nil_append, List.mem_singleton] at hp
    omega
theorem InU.nil (m n : Nat) : InU m n [] := fun _ h => by cases h
structure More (B B' : List Bar) : Prop where
  len : B.length ≤ B'.length
  good : GoodB B
  good' : GoodB B'
  at_ : ∀ j, j < B.length → (B'.getD j b0).w = (B.getD j b0).w ∧ (B'.getD j b0).d = (B.getD j b0).d ∧ (B'.getD j b0).l = (B.getD j b0).l ∧ (B'.getD j b0).gs = (B.getD j b0).gs ∧
    (B.getD j b0).n ≤ (B'.getD j b0).n
theorem GoodB.at {B : List Bar} (h : GoodB B) {j : Nat} (hj : j < B.length) : barE (B.getD j b0) = 0 := by
  rw [List.getD_eq_getElem?_getD, List.getElem?_eq_getElem hj]
  exact h _ (List.getElem_mem hj)
theorem fits_like {b b' : Bar} (h : barE b = 0) (h' : barE b' = 0) (hl : b'.l = b.l) (hg : b'.gs = b.gs) (ls : List Int) (k : Int) : fitsOk b' ls k = fitsOk b ls k ∧ fitsAt b' ls k = fitsAt b ls k := by
  have e1 : kerfE b' k = kerfE b k := by unfold kerfE; rw [h, h']
  have e2 : fitsE b' ls k = fitsE b ls k := by unfold fitsE; rw [e1]
  have e3 : fitsR b' ls k = fitsR b ls k := by unfold fitsR gapsOf; rw [hl, hg]
  have e4 : fitsOk b' ls k = fitsOk b ls k := by unfold fitsOk; rw [e2, e3]
  exact ⟨e4, by unfold fitsAt; rw [e4, e3]⟩
theorem More.withU {B B' : List Bar} (h : More B B') {A : List Cut} {k : Int} {u : Used} {n : Nat} (h1 : u.bar.toNat < B.length) : withU A B' k u n = withU A B k u n := by
  obtain ⟨a1, a2, a3, a4, _⟩ := h.at_ _ h1
  obtain ⟨e1, e2⟩ := fits_like (h.good.at h1) (h.good'.at (Nat.lt_of_lt_of_le h1 h.len)) a3 a4 (lensL A (u.ps ++ [(n : Int)])) k
  unfold Tz.withU barAt
  rw [e1, e2]
  unfold sectB
  rw [a1, a2]
theorem More.freshU {B B' : List Bar} (h : More B B') {A : List Cut} {k : Int} {us : List Used} {n j : Nat} {u : Used} (hj : j < B.length) (hw : freshU A B k us n j = some u) : freshU A B' k us n j = some u := by
  obtain ⟨h1, h2⟩ := freshU_some hw
  unfold Tz.freshU
  have e : freeB B' us j = true := by
    unfold freeB at h1 ⊢
    rw [ltB_iff] at h1 ⊢
    have := (h.at_ j hj).2.2.2.2
    omega
  rw [e, h.withU (by simpa using hj)]
  exact h2
theorem fin_more {A : List Cut} {B B' : List Bar} {k : Int} (h : More B B') {n : Nat} {us us' : List Used} (hf : Fin A B k n us us') (hi : InU B.length n us) : Fin A B' k n us us' ∧ InU B.length A.length us' := by
  induction hf with
  | done us => exact ⟨.done us, hi⟩
  | add hn hi' hw _ ih =>
    obtain ⟨i1, i2⟩ := ih (hi.put hi' hw)
    refine ⟨.add hn hi' ?_ i1, i2⟩
    have := hi _ (hi.get hi')
    rw [h.withU (by omega)]
    exact hw
  | fresh hn hj hw _ ih =>
    obtain ⟨i1, i2⟩ := ih (hi.new hj hw)
    exact ⟨.fresh hn (Nat.lt_of_lt_of_le hj h.len) (h.freshU hj hw) i1, i2⟩
theorem lens_take {A : List Cut} {m : Nat} {ps : List Int} (h : ∀ p ∈ ps, 0 ≤ p ∧ p < (m : Int)) : lensL (A.take m) ps = lensL A ps := by
  unfold lensL
  refine List.map_congr_left fun p hp => ?_
  have := h p hp
  rw [List.getD_eq_getElem?_getD, List.getD_eq_getElem?_getD, List.getElem?_take, if_pos (by omega)]
theorem withU_take {A : List Cut} {B : List Bar} {k : Int} {u : Used} {n m : Nat} (hn : n < m) (h : ∀ p ∈ u.ps, 0 ≤ p ∧ p < (n : Int)) : withU (A.take m) B k u n = withU A B k u n := by
  unfold withU
  rw [lens_take (m := m) (ps := u.ps ++ [(n : Int)]) fun p hp => by
    rcases List.mem_append.1 hp with hp | hp
    · have := h p hp; omega
    · rw [List.mem_singleton] at hp; omega]
  rw [List.getD_eq_getElem?_getD, List.getElem?_take, if_pos hn, ← List.getD_eq_getElem?_getD]
theorem fin_fewer {A : List Cut} {B : List Bar} {k : Int} {m : Nat} (hB : GoodB B) (hm : m ≤ A.length) {n : Nat} {us us' : List Used} (hf : Fin A B k n us us') (hi : InU B.length n us) (hn : n ≤ m) :
    ∃ us'', Fin (A.take m) B k n us us'' ∧ costU B us'' ≤ costU B us' := by
  have hl : (A.take m).length = m := by simp; omega
  have done : ∀ {n : Nat} {us us' : List Used}, Fin A B k n us us' → n = m → ∃ us'', Fin (A.take m) B k n us us'' ∧ costU B us'' ≤ costU B us' := fun hf e => by
    have := Fin.done (A := A.take m) (B := B) (k := k)
    rw [hl] at this
    exact ⟨_, e ▸ this _, hf.cost hB⟩
  induction hf with
  | done us => exact done (.done us) (by omega)
  | add hn' hi' hw h ih =>
    rename_i n us us' i u
    by_cases e : n = m
    · exact done (.add hn' hi' hw h) e
    · obtain ⟨us'', i1, i2⟩ := ih (hi.put hi' hw) (by omega)
      refine ⟨us'', .add (by rw [hl]; omega) hi' ?_ i1, i2⟩
      rw [withU_take (by omega) (hi _ (hi.get hi')).2.2]
      exact hw
  | fresh hn' hj hw h ih =>
    rename_i n us us' j u
    by_cases e : n = m
    · exact done (.fresh hn' hj hw h) e
    · obtain ⟨us'', i1, i2⟩ := ih (hi.new hj hw) (by omega)
      refine ⟨us'', .fresh (by rw [hl]; omega) hj ?_ i1, i2⟩
      obtain ⟨h1, h2⟩ := freshU_some hw
      unfold freshU
      rw [h1, withU_take (by omega) (fun p hp => by cases hp)]
      exact h2
def bestF (A : List Cut) (B : List Bar) (k : Int) : Fd := fromF A B k (A.length + 1) 0 [] ⟨false, 0, []⟩
theorem best_ok {A : List Cut} {B : List Bar} {k : Int} (hB : GoodB B) : Qs B (Fin A B k 0 []) ⟨false, 0, []⟩ (bestF A B k) := from_ok hB _ _ _ _ (by omega) (by omega)
theorem best_found {A : List Cut} {B : List Bar} {k : Int} (hB : GoodB B) (h : (bestF A B k).found = true) :
    Fin A B k 0 [] (bestF A B k).best ∧ (bestF A B k).least = costU B (bestF A B k).best ∧ InU B.length A.length (bestF A B k).best := by
  rcases (best_ok (A := A) (k := k) hB).from_ with e | ⟨us, hu, e⟩
  · rw [e] at h; cases h
  · rw [e]
    exact ⟨hu, rfl, (fin_more ⟨Nat.le_refl _, hB, hB, fun j hj => ⟨rfl, rfl, rfl, rfl, Int.le_refl _⟩⟩ hu (InU.nil _ _)).2⟩
theorem best_le {A A' : List Cut} {B B' : List Bar} {k : Int} (hB : GoodB B) (hB' : GoodB B') (h : (bestF A B k).found = true)
    (hm : ∀ us, Fin A B k 0 [] us → InU B.length A.length us → ∃ us', Fin A' B' k 0 [] us' ∧ costU B' us' ≤ costU B us) :
    (bestF A' B' k).found = true ∧ costU B' (bestF A' B' k).best ≤ costU B (bestF A B k).best := by
  obtain ⟨h1, h2, h3⟩ := best_found hB h
  obtain ⟨us', u1, u2⟩ := hm _ h1 h3
  obtain ⟨a1, a2⟩ := (best_ok (A := A') (k := k) hB').all us' u1
  obtain ⟨b1, b2, _⟩ := best_found hB' a1
  exact ⟨a1, by omega⟩
theorem costU_like {B B' : List Bar} {m : Nat} {us : List Used} (h : InU B.length m us) (hc : ∀ j, j < B.length → (B'.getD j b0).c = (B.getD j b0).c) : costU B' us = costU B us := by
  unfold costU
  congr 1
  refine List.map_congr_left fun u hu => ?_
  have := h u hu
  exact hc _ (by omega)
theorem best_more {A : List Cut} {B B' : List Bar} {k : Int} (h : More B B') (hc : ∀ j, j < B.length → (B'.getD j b0).c = (B.getD j b0).c) (hf : (bestF A B k).found = true) :
    (bestF A B' k).found = true ∧ costU B' (bestF A B' k).best ≤ costU B (bestF A B k).best :=
  best_le h.good h.good' hf fun us hu hi => ⟨us, (fin_more h hu (InU.nil _ _)).1, Int.le_of_eq (costU_like hi hc)⟩
theorem best_fewer {A : List Cut} {B : List Bar} {k : Int} {m : Nat} (hB : GoodB B) (hm : m ≤ A.length) (hf : (bestF A B k).found = true) :
    (bestF (A.take m) B k).found = true ∧ costU B (bestF (A.take m) B k).best ≤ costU B (bestF A B k).best :=
  best_le hB hB hf fun us hu _ => fin_fewer hB hm hu (InU.nil _ _) (Nat.zero_le _)
end Go.Tz

/- The first of the single pieces are a list of pieces again, and their own single pieces. -/
namespace Go.Tz
open Go Go.Sx Go.Proofs
theorem firstN_zero {f : Nat → Int} : ∀ {n z : Nat}, firstN f n z = 0 → ∀ i, z ≤ i → i < z + n → f i = 0
  | 0, z, _, i, h1, h2 => by omega
  | n + 1, z, h, i, h1, h2 => by
    rw [firstN] at h
    cases hc : f z != 0 with
    | true =>
      rw [hc, cond_true] at h
      exact absurd h (bne_iff_ne.1 hc)
    | false =>
      rw [hc, cond_false] at h
      by_cases e : i = z
      · rw [e]; simpa using hc
      · exact firstN_zero h i (by omega) (by omega)
theorem cutsE_all {l : List Cut} (h : cutsE l = 0) : l.length ≤ 512 ∧ ∀ z, z < l.length → cutE l z = 0 := by
  refine ⟨(cutsE_ok h).1, fun z hz => ?_⟩
  unfold cutsE at h
  cases hc : Nat.blt 512 l.length with
  | true => rw [hc] at h; cases h
  | false =>
    rw [hc, cond_false] at h
    exact firstN_zero h z (by omega) (by omega)
theorem cutE_inv {l : List Cut} {z : Nat} (h : cutE l z = 0) : pieceE (l.getD z c0) = 0 ∧ (0 < z → behB (l.getD (z - 1) c0) (l.getD z c0) = true) ∧ ∀ m ∈ (l.getD z c0).ms, m ∉ seenAt l z := by
  unfold cutE at h
  simp only at h
  cases h1 : pieceE (l.getD z c0) != 0 with
  | true => rw [h1, cond_true] at h; exact absurd h (bne_iff_ne.1 h1)
  | false =>
  rw [h1, cond_false] at h
  cases h2 : Nat.blt 0 z && !behB (l.getD (z - 1) c0) (l.getD z c0) with
  | true => rw [h2] at h; cases h
  | false =>
  rw [h2, cond_false] at h
  cases h3 : (l.getD z c0).ms.any fun m => (seenAt l z).any fun x => x == m with
  | true => rw [h3] at h; cases h
  | false =>
  refine ⟨by simpa using h1, fun hz => ?_, fun m hm hs => ?_⟩
  · rw [(blt_iff 0 z).2 hz] at h2
    simpa using h2
  · rw [List.any_eq_false] at h3
    refine h3 m hm ?_
    rw [List.any_eq_true]
    exact ⟨m, hs, by simp⟩
theorem cutE_mk {l : List Cut} {z : Nat} (h1 : pieceE (l.getD z c0) = 0) (h2 : 0 < z → behB (l.getD (z - 1) c0) (l.getD z c0) = true) (h3 : ∀ m ∈ (l.getD z c0).ms, m ∉ seenAt l z) : cutE l z = 0 := by
  unfold cutE
  simp only
  rw [h1]
  simp only [bne_self_eq_false, cond_false]
  have e2 : (Nat.blt 0 z && !behB (l.getD (z - 1) c0) (l.getD z c0)) = false := by
    cases hb : Nat.blt 0 z with
    | false => rfl
    | true => rw [h2 ((blt_iff _ _).1 hb)]; rfl
  rw [e2, cond_false]
  have e3 : ((l.getD z c0).ms.any fun m => (seenAt l z).any fun x => x == m) = false := by
    rw [List.any_eq_false]
    intro m hm hs
    rw [List.any_eq_true] at hs
    obtain ⟨x, hx, e⟩ := hs
    exact h3 m hm ((eq_of_beq e) ▸ hx)
  rw [e3]; rfl
theorem seenAt_eq (l : List Cut) : ∀ z, z ≤ l.length → seenAt l z = (l.take z).flatMap (·.ms)
  | 0, _ => by simp [seenAt]
  | z + 1, hz => by
    rw [seenAt, seenAt_eq l z (by omega), List.take_add_one, List.getElem?_eq_getElem (show z < l.length by omega), List.flatMap_append]
    rw [List.getD_eq_getElem?_getD, List.getElem?_eq_getElem (show z < l.length by omega)]
    simp
theorem ascL_nodup {l : List Int} (h : ascL l = true) : l.Nodup := by
  have h1 : ∀ i, i + 1 < l.length → l.getD i 0 < l.getD (i + 1) 0 := fun i hi => of_decide_eq_true (allN_true h i (by omega))
  have h2 : ∀ d i, i + d + 1 < l.length → l.getD i 0 < l.getD (i + d + 1) 0 := by
    intro d
    induction d with
    | zero => exact h1
    | succ d ih =>
      intro i hi
      have := ih i (by omega)
      have := h1 (i + d + 1) (by omega)
      rw [show i + (d + 1) + 1 = i + d + 1 + 1 by omega]
      omega
  refine List.pairwise_iff_getElem.2 fun i j hi hj hij => ?_
  have := h2 (j - i - 1) i (by omega)
  rw [show i + (j - i - 1) + 1 = j by omega] at this
  rw [List.getD_eq_getElem?_getD, List.getElem?_eq_getElem hi, List.getD_eq_getElem?_getD, List.getElem?_eq_getElem hj] at this
  simp only [Option.getD_some] at this
  omega
theorem pieceE_zero {c : Cut} (h : pieceE c = 0) : ¬ (ltB c.w 1 || ltB 1000 c.w || ltB c.d 1 || ltB 1000 c.d || ltB c.l 1 || ltB 1048576 c.l) = true ∧ c.ms.any pOut = false ∧ ascL c.ms = true := by
  unfold pieceE at h
  cases h1 : ltB c.w 1 || ltB 1000 c.w || ltB c.d 1 || ltB 1000 c.d || ltB c.l 1 || ltB 1048576 c.l with
  | true => rw [h1] at h; cases h
  | false =>
  rw [h1] at h
  cases h2 : Nat.beq c.ms.length 0 with
  | true => rw [h2] at h; cases h
  | false =>
  rw [h2] at h
  cases h3 : c.ms.any pOut with
  | true => rw [h3] at h; cases h
  | false =>
  rw [h3] at h
  cases h4 : ascL c.ms with
  | false => rw [h4] at h; cases h
  | true => exact ⟨by simp, rfl, rfl⟩
theorem pieceE_one {c : Cut} {m : Int} (h : pieceE c = 0) (hm : m ∈ c.ms) : pieceE (one c m) = 0 := by
  obtain ⟨h1, h2, h3⟩ := pieceE_zero h
  rw [Bool.not_eq_true] at h1
  unfold pieceE one
  simp only
  rw [h1, cond_false]
  rw [List.any_eq_false] at h2
  have h4 : pOut m = false := by simpa using h2 m hm
  simp [h4, ascL, allN, Nat.beq]
theorem ms_nodup {l : List Cut} (h : cutsE l = 0) : (l.flatMap (·.ms)).Nodup := by
  obtain ⟨h0, h1⟩ := cutsE_all h
  have : ∀ z, z ≤ l.length → ((l.take z).flatMap (·.ms)).Nodup := by
    intro z
    induction z with
    | zero => intro _; simp
    | succ z ih =>
      intro hz
      have hlt : z < l.length := by omega
      obtain ⟨c1, _, c3⟩ := cutE_inv (h1 z hlt)
      have e : l.getD z c0 = l[z] := by rw [List.getD_eq_getElem?_getD, List.getElem?_eq_getElem hlt]; rfl
      rw [e] at c1 c3
      rw [List.take_add_one, List.getElem?_eq_getElem hlt, List.flatMap_append]
      simp only [Option.toList_some, List.flatMap_cons, List.flatMap_nil, List.append_nil]
      refine List.nodup_append.2 ⟨ih (by omega), ascL_nodup (pieceE_zero c1).2.2, fun a ha b hb hab => ?_⟩
      subst hab
      rw [seenAt_eq l z (by omega)] at c3
      exact c3 a hb ha
  have := this l.length (Nat.le_refl _)
  rwa [List.take_length] at this
theorem singles_ms (l : List Cut) : (singlesOf l).map (fun c => c.ms.getD 0 0) = l.flatMap (·.ms) := by
  unfold singlesOf
  rw [List.map_flatMap]
  congr 1
  funext c
  rw [List.map_map]
  have : ((fun c : Cut => c.ms.getD 0 0) ∘ one c) = id := by funext m; rfl
  rw [this, List.map_id]
theorem split_ms {l : List Cut} (h : cutsE l = 0) : ((splitL l).map fun c => c.ms.getD 0 0).Nodup := by
  have := (splitL_perm l).map fun c => c.ms.getD 0 0
  rw [singles_ms] at this
  exact this.symm.nodup (ms_nodup h)
theorem split_piece {l : List Cut} (h : cutsE l = 0) : ∀ c ∈ splitL l, pieceE c = 0 ∧ ∃ m, c.ms = [m] := by
  intro c hc
  have h1 := (splitL_perm l).subset hc
  refine ⟨?_, single_mem h1⟩
  obtain ⟨a, ha, h2⟩ := List.mem_flatMap.1 h1
  obtain ⟨m, hm, rfl⟩ := List.mem_map.1 h2
  obtain ⟨i, hi, rfl⟩ := List.getElem_of_mem ha
  have := (cutsE_ok h).2 i hi
  rw [List.getD_eq_getElem?_getD, List.getElem?_eq_getElem hi] at this
  exact pieceE_one this hm
theorem singles_self : ∀ {t : List Cut}, (∀ c ∈ t, ∃ m, c.ms = [m]) → singlesOf t = t
  | [], _ => rfl
  | c :: t, h => by
    obtain ⟨m, hm⟩ := h c List.mem_cons_self
    have ih := singles_self (t := t) fun x hx => h x (List.mem_cons_of_mem _ hx)
    unfold singlesOf at ih ⊢
    rw [List.flatMap_cons, ih, hm]
    cases c
    simp only at hm
    subst hm
    rfl
theorem take_split {l : List Cut} (h : cutsE l = 0) (m : Nat) : splitL ((splitL l).take m) = (splitL l).take m := by
  refine (splitL_only ?_ ((splitL_sorted l).sublist (List.take_sublist _ _))).symm
  rw [singles_self fun c hc => (split_piece h c (List.mem_of_mem_take hc)).2]
theorem take_cuts {l : List Cut} (h : cutsE l = 0) {m : Nat} (hm : m ≤ 512) : cutsE ((splitL l).take m) = 0 := by
  have hn := split_ms h
  have hs := splitL_sorted l
  generalize hS : splitL l = s at hn hs ⊢
  have hp : ∀ c ∈ s, pieceE c = 0 ∧ ∃ m, c.ms = [m] := hS ▸ split_piece h
  have hlen : (s.take m).length ≤ 512 := by rw [List.length_take]; omega
  refine cutsE_none hlen fun z hz => ?_
  have hzs : z < s.length := by rw [List.length_take] at hz; omega
  have hzm : z < m := by rw [List.length_take] at hz; omega
  have get : ∀ i, i < m → ∀ h2 : i < s.length, (s.take m).getD i c0 = s[i] := fun i h1 h2 => by
    rw [List.getD_eq_getElem?_getD, List.getElem?_take, if_pos h1, List.getElem?_eq_getElem h2]; rfl
  have ne : ∀ i j, ∀ hij : i < j, ∀ hj : j < s.length, (s[i]'(by omega)).ms.getD 0 0 ≠ (s[j]).ms.getD 0 0 := fun i j hij hj => by
    have := List.pairwise_iff_getElem.1 hn i j (by simp; omega) (by simpa using hj) hij
    simpa using this
  refine cutE_mk ?_ (fun h0 => ?_) fun x hx => ?_
  · rw [get z hzm hzs]; exact (hp _ (List.getElem_mem hzs)).1
  · rw [get z hzm hzs, get (z - 1) (by omega) (by omega)]
    have h1 := List.pairwise_iff_getElem.1 hs (z - 1) z (by omega) hzs (by omega)
    cases hb : behB (s[z - 1]'(by omega)) s[z] with
    | true => rfl
    | false =>
      have := Key.anti h1 hb
      have h3 := congrArg Key.m this
      exact absurd h3.symm (ne (z - 1) z (by omega) hzs)
  · rw [get z hzm hzs] at hx
    obtain ⟨y, hy⟩ := (hp _ (List.getElem_mem hzs)).2
    rw [hy, List.mem_singleton] at hx
    subst hx
    rw [seenAt_eq _ z (by omega), List.mem_flatMap]
    rintro ⟨c, hc, hm'⟩
    rw [List.take_take, Nat.min_eq_left (by omega)] at hc
    obtain ⟨i, hi, rfl⟩ := List.getElem_of_mem hc
    rw [List.length_take] at hi
    rw [List.getElem_take] at hm'
    obtain ⟨y', hy'⟩ := (hp _ (List.getElem_mem (show i < s.length by omega))).2
    rw [hy', List.mem_singleton] at hm'
    have := ne i z (by omega) hzs
    rw [hy, hy'] at this
    simp only [List.getD_cons_zero] at this
    exact this hm'.symm
end Go.Tz
