/- For proofs of printed conditions: what is written is read back. Of no program. -/
import Derived.Test.YtdkpceodckdcfaaGreatDoorArA
import Derived.Test.YtdkpceodckdcfaaGreatDoorSxU
set_option linter.unusedSimpArgs false
set_option linter.unusedVariables false
namespace Go.Ar
open Go Go.Sx Go.Lib
set_option maxRecDepth 100000
class LawEnc (α : Type) [Enc α] : Prop where
  dec : ∀ a : α, Enc.dec (Enc.enc a) = a
  ok : ∀ a : α, Enc.ok (α := α) (Enc.enc a) = true
theorem allN_of {f : Nat → Bool} : ∀ {n : Nat}, (∀ i, i < n → f i = true) → allN f n = true
  | 0, _ => rfl
  | n + 1, h => by simp only [allN, Bool.and_eq_true]; exact ⟨allN_of fun i hi => h i (by omega), h n (by omega)⟩
section
variable {α : Type} [Enc α] [LawEnc α]
theorem slD_xl (f : Bool) (l : List α) (n : Nat) : slD (AV.xl f n l.length fun i j => Enc.enc (l.getD i Enc.dflt) j) = l := by
  show listOf l.length (fun i => Enc.dec (Enc.enc (l.getD i Enc.dflt))) = l
  simp only [LawEnc.dec]
  exact listOf_getD l _
theorem slD_slE (l : List α) : slD (slE l) = l := slD_xl false l _
theorem slOk_xl (f : Bool) (l : List α) : slOk α (AV.xl f (Enc.n α) l.length fun i j => Enc.enc (l.getD i Enc.dflt) j) = true := by
  show (Nat.beq (Enc.n α) (Enc.n α) && allN (fun i => Enc.ok (α := α) (Enc.enc (l.getD i Enc.dflt))) l.length) = true
  rw [Bool.and_eq_true]
  exact ⟨Nat.beq_refl _, allN_of fun i _ => LawEnc.ok _⟩
theorem slOk_slE (l : List α) : slOk α (slE l) = true := slOk_xl false l
theorem agD_agE (a : α) : agD (agE a) = a := LawEnc.dec a
theorem agOk_agE (a : α) : agOk α (agE a) = true := by
  show (Nat.beq (Enc.n α) (Enc.n α) && Enc.ok (α := α) (Enc.enc a)) = true
  rw [Bool.and_eq_true]
  exact ⟨Nat.beq_refl _, LawEnc.ok _⟩
theorem sl_of {f : Bool} {len : Nat} {els : Nat → Nat → AV} (g : Nat → α) (h : ∀ i, i < len → els i = Enc.enc (g i)) :
    slOk α (.xl f (Enc.n α) len els) = true ∧ slD (α := α) (.xl f (Enc.n α) len els) = listOf len g := by
  constructor
  · show (Nat.beq _ _ && _) = true
    rw [Bool.and_eq_true]
    exact ⟨Nat.beq_refl _, allN_of fun i hi => by rw [h i hi]; exact LawEnc.ok _⟩
  · show (List.range len).map _ = (List.range len).map _
    refine List.map_congr_left fun i hi => ?_
    rw [h i (List.mem_range.1 hi)]
    exact LawEnc.dec _
end
theorem listOf_ext {α : Type} {len : Nat} {g : Nat → α} {l : List α} (h1 : l.length = len) (h2 : ∀ i (h : i < l.length), g i = l[i]) : listOf len g = l := by
  refine List.ext_getElem (by simp [listOf, h1]) fun i h3 h4 => ?_
  simp only [listOf, List.getElem_map, List.getElem_range]
  exact h2 i h4
instance : LawEnc Int := ⟨fun _ => rfl, fun _ => rfl⟩
instance : LawEnc Bool := ⟨fun _ => rfl, fun _ => rfl⟩
instance : LawEnc (List UInt8) := ⟨fun _ => rfl, fun _ => rfl⟩
theorem int_i (k : IntKind) (n : Int) : AV.int (.v (.int k n)) = n := rfl
theorem ltB_nat (z : Nat) : ltB 0 (z : Int) = Nat.blt 0 z := by rw [Bool.eq_iff_iff, ltB_iff, blt_iff]; omega
theorem pred_nat (z : Nat) : ((z : Int) - 1).toNat = z - 1 := by omega
theorem vc_tt {A B : Prop} : bsplit true A B ↔ A := by simp [bsplit_iff]
theorem vc_ff {A B : Prop} : bsplit false A B ↔ B := by simp [bsplit_iff]
theorem row_one (r : Nat → AV) : Sx.rowAt [r] = fun _ j => r j := by
  funext i j
  unfold Sx.rowAt
  cases i with
  | zero => rfl
  | succ i => rfl
def intsOf (x : AV) : List Int := slD x
theorem okIn (f : Bool) (l : List Int) : slOk Int (AV.xl f 1 l.length fun i j => AV.v (Value.int IntKind.i64 (l.getD i 0))) = true := slOk_xl f l
theorem okIn' (f : Bool) (l : List Int) : slOk Int (AV.xl f 1 l.length fun i j => AV.v (Value.int IntKind.i64 (l.getD i Enc.dflt))) = true := slOk_xl f l
theorem deI (f : Bool) (l : List Int) : slD (AV.xl f 1 l.length fun i j => AV.v (Value.int IntKind.i64 (l.getD i 0))) = l := slD_xl f l 1
theorem deI' (f : Bool) (l : List Int) : slD (AV.xl f 1 l.length fun i j => AV.v (Value.int IntKind.i64 (l.getD i Enc.dflt))) = l := slD_xl f l 1
theorem deIo (f : Bool) (l : List Int) : intsOf (AV.xl f 1 l.length fun i j => AV.v (Value.int IntKind.i64 (l.getD i 0))) = l := slD_xl f l 1
theorem deIo' (f : Bool) (l : List Int) : intsOf (AV.xl f 1 l.length fun i j => AV.v (Value.int IntKind.i64 (l.getD i Enc.dflt))) = l := slD_xl f l 1
theorem intsTake (f : Bool) (l : List Int) {m : Nat} (hm : m ≤ l.length) : slOk Int (AV.xl f 1 m fun i _ => AV.v (Value.int IntKind.i64 (l.getD i 0))) = true ∧ intsOf (AV.xl f 1 m fun i _ => AV.v (Value.int IntKind.i64 (l.getD i 0))) = l.take m := by
  obtain ⟨h1, h2⟩ := sl_of (α := Int) (f := f) (len := m) (els := fun i _ => AV.v (Value.int IntKind.i64 (l.getD i 0))) (fun i => l.getD i 0) fun _ _ => rfl
  refine ⟨h1, h2.trans (listOf_ext (by simp [hm]) fun i h => ?_)⟩
  rw [List.getElem_take, List.getD_eq_getElem?_getD, List.getElem?_eq_getElem (by simp at h; omega)]; rfl
def idxF {α : Type} (p : α → Bool) : List α → Nat → Int
  | [], _ => -1
  | a :: l, i => bif p a then (i : Int) else idxF p l (i + 1)
theorem idxF_any {α : Type} (p : α → Bool) : ∀ (l : List α) (i : Nat), leB 0 (idxF p l i) = l.any p
  | [], _ => rfl
  | a :: l, i => by
    unfold idxF
    cases h : p a with
    | true =>
      simp only [cond_true, List.any_cons, h, Bool.true_or]
      exact (leB_iff _ _).2 (by omega)
    | false =>
      simp only [cond_false, List.any_cons, h, Bool.false_or]
      exact idxF_any p l (i + 1)
theorem getD_drop {α : Type} {l : List α} {d : α} {z : Nat} (h : z < l.length) : l.drop z = l.getD z d :: l.drop (z + 1) := by
  rw [List.drop_eq_getElem_cons h, List.getD_eq_getElem?_getD, List.getElem?_eq_getElem h]; rfl
theorem take_snoc {α : Type} {l : List α} {d : α} {z : Nat} (h : z < l.length) : l.take (z + 1) = l.take z ++ [l.getD z d] := by
  rw [List.take_add_one, List.getElem?_eq_getElem h, List.getD_eq_getElem?_getD, List.getElem?_eq_getElem h]; rfl
def fn0 (f : FuncId) : AV := .fn (.func f) 0 (fun _ => .junk) 0 (fun _ => .junk)
def idx_an {α : Type} [Enc α] (l : List α) (p : α → Bool) : Ann :=
  .two .auto (.two (.two .auto (.one (.loop Nat (fun σ z => [(0, σ.tm 0), (1, σ.tm 1), (6, σ.tm 0), (7, .i l.length), (8, .i z)]) (fun _ _ => []) 0
    (fun _ z => z ≤ l.length ∧ idxF p (l.drop z) z = idxF p l 0) (fun _ z => l.length - z) .auto))) .auto)
def firstN (f : Nat → Int) : Nat → Nat → Int
  | 0, _ => 0
  | n + 1, z => bif f z != 0 then f z else firstN f n (z + 1)
theorem firstN_skip {f : Nat → Int} : ∀ {k n : Nat}, k ≤ n → (∀ i, i < k → f i = 0) → firstN f n 0 = firstN f (n - k) k
  | 0, n, _, _ => by simp
  | k + 1, n, hk, h => by
    rw [firstN_skip (k := k) (by omega) fun i hi => h i (by omega), show n - k = n - (k + 1) + 1 by omega]
    show (bif f k != 0 then f k else firstN f (n - (k + 1)) (k + 1)) = _
    rw [h k (by omega)]; rfl
theorem firstN_at {f : Nat → Int} {k n : Nat} (hk : k < n) (h : ∀ i, i < k → f i = 0) (h2 : f k ≠ 0) : firstN f n 0 = f k := by
  rw [firstN_skip (k := k) (by omega) h, show n - k = n - (k + 1) + 1 by omega]
  show (bif f k != 0 then f k else firstN f (n - (k + 1)) (k + 1)) = _
  rw [bne_iff_ne.2 h2]; rfl
theorem firstN_none {f : Nat → Int} {n : Nat} (h : ∀ i, i < n → f i = 0) : firstN f n 0 = 0 := by
  rw [firstN_skip (Nat.le_refl _) h, Nat.sub_self]; rfl
end Go.Ar

set_option linter.unusedSimpArgs false
set_option linter.unusedVariables false
namespace Go.Ar
open Go Go.Sx Go.Lib
set_option maxRecDepth 100000
structure Row where
  w : Int
  d : Int
  s : Int
  q : Int
  n : Int
deriving DecidableEq
abbrev r0 : Row := ⟨0, 0, 0, 0, 0⟩
instance : Enc Row := ⟨5, ⟨0, 0, 0, 0, 0⟩, fun c => listFn [.i c.w, .i c.d, .i c.s, .i c.q, .i c.n], fun cs => ⟨AV.int (cs 0), AV.int (cs 1), AV.int (cs 2), AV.int (cs 3), AV.int (cs 4)⟩,
  fun cs => isI64 (cs 0) && isI64 (cs 1) && isI64 (cs 2) && isI64 (cs 3) && isI64 (cs 4), fun cs h j hj => by
  simp only [Bool.and_eq_true] at h
  match j, hj with
  | 0, _ => exact avM_of_eq (isI64_eq h.1.1.1.1)
  | 1, _ => exact avM_of_eq (isI64_eq h.1.1.1.2)
  | 2, _ => exact avM_of_eq (isI64_eq h.1.1.2)
  | 3, _ => exact avM_of_eq (isI64_eq h.1.2)
  | 4, _ => exact avM_of_eq (isI64_eq h.2)⟩
instance : LawEnc Row := ⟨fun _ => rfl, fun _ => rfl⟩
def rowsOf (x : AV) : List Row := slD x
theorem okR (f : Bool) (l : List Row) : slOk Row (AV.xl f 5 l.length fun i j => Enc.enc (l.getD i r0) j) = true := slOk_xl f l
theorem okR' (f : Bool) (l : List Row) : slOk Row (AV.xl f 5 l.length fun i j => Enc.enc (l.getD i Enc.dflt) j) = true := slOk_xl f l
theorem deR (f : Bool) (l : List Row) : slD (AV.xl f 5 l.length fun i j => Enc.enc (l.getD i r0) j) = l := slD_xl f l 5
theorem deR' (f : Bool) (l : List Row) : slD (AV.xl f 5 l.length fun i j => Enc.enc (l.getD i Enc.dflt) j) = l := slD_xl f l 5
theorem deRo (f : Bool) (l : List Row) : rowsOf (AV.xl f 5 l.length fun i j => Enc.enc (l.getD i r0) j) = l := slD_xl f l 5
theorem deRo' (f : Bool) (l : List Row) : rowsOf (AV.xl f 5 l.length fun i j => Enc.enc (l.getD i Enc.dflt) j) = l := slD_xl f l 5
theorem agD_row (b : Row) : agD (.agg 5 fun i => Enc.enc b i) = b := agD_agE b
theorem agOk_row (b : Row) : agOk Row (.agg 5 fun i => Enc.enc b i) = true := agOk_agE b
theorem agD_row' (b : Row) (g : Nat → AV) : agD (.agg 5 fun i => if i < 5 then Enc.enc b i else g i) = b := LawEnc.dec b
theorem agOk_row' (b : Row) (g : Nat → AV) : agOk Row (.agg 5 fun i => if i < 5 then Enc.enc b i else g i) = true := agOk_agE b
def between (n a b : Int) : Bool := leB a n && leB n b
theorem between_iff {n a b : Int} : between n a b = true ↔ a ≤ n ∧ n ≤ b := by unfold between; rw [Bool.and_eq_true, leB_iff, leB_iff]
def condB (s q : Int) : Bool := between s 1 65536 && between q 0 1048576
def rangB (w d s q : Int) : Bool := between w 1 1000 && between d 1 1000 && condB s q
def ordR (a b : Row) : Int := bif a.w - b.w != 0 then a.w - b.w else bif a.d - b.d != 0 then a.d - b.d else bif a.s - b.s != 0 then a.s - b.s else a.q - b.q
def rowE (l : List Row) (i : Nat) : Int :=
  bif !rangB (l.getD i r0).w (l.getD i r0).d (l.getD i r0).s (l.getD i r0).q || !between (l.getD i r0).n 1 65536 then 2
  else bif Nat.blt 0 i && leB 0 (ordR (l.getD (i - 1) r0) (l.getD i r0)) then 10 else 0
def tabE (l : List Row) : Int := bif Nat.blt 4096 l.length then 4 else firstN (rowE l) l.length 0
def enoB (x : Row) (w d s q : Int) : Bool := leB x.w w && leB x.d d && leB s x.s && leB q x.q
def findZ (l : List Row) (w d s q : Int) : Nat → Int
  | 0 => 0
  | z + 1 => bif enoB (l.getD z r0) w d s q then (if (l.getD z r0).n > findZ l w d s q z then (l.getD z r0).n else findZ l w d s q z) else findZ l w d s q z
def findR (l : List Row) (w d s q : Int) : Int := findZ l w d s q l.length
def monB (l : List Row) : Bool := !l.any fun x => ltB x.n (findR l x.w x.d x.s x.q)
def askE (l : List Row) (w d s q : Int) : Int := bif tabE l != 0 then 1 else bif !rangB w d s q then 2 else 0
def findE (l : List Row) (w d s q : Int) : Int := bif askE l w d s q != 0 then askE l w d s q else bif findR l w d s q == 0 then 25 else 0
def findV (l : List Row) (w d s q : Int) : Int := bif findE l w d s q == 0 then findR l w d s q else 0
theorem tabE_ok {l : List Row} (h : tabE l = 0) : l.length ≤ 4096 ∧ ∀ i, i < l.length → rowE l i = 0 := by
  unfold tabE at h
  cases h1 : Nat.blt 4096 l.length with
  | true => rw [h1] at h; cases h
  | false =>
    rw [h1] at h
    have h : firstN (rowE l) l.length 0 = 0 := h
    refine ⟨by rw [Bool.eq_false_iff, Ne, blt_iff] at h1; omega, fun i => ?_⟩
    induction i using Nat.strongRecOn with
    | _ i ih =>
      intro hi
      refine Decidable.byContradiction fun hn => ?_
      rw [firstN_at hi (fun j hj => ih j hj (by omega)) hn] at h
      exact hn h
theorem rowE_ok {l : List Row} {i : Nat} (h : rowE l i = 0) : rangB (l.getD i r0).w (l.getD i r0).d (l.getD i r0).s (l.getD i r0).q = true ∧ between (l.getD i r0).n 1 65536 = true := by
  unfold rowE at h
  cases h1 : !rangB (l.getD i r0).w (l.getD i r0).d (l.getD i r0).s (l.getD i r0).q || !between (l.getD i r0).n 1 65536 with
  | true => rw [h1] at h; cases h
  | false =>
    rw [Bool.or_eq_false_iff, Bool.not_eq_false', Bool.not_eq_false'] at h1
    exact h1
theorem findZ_ge {l : List Row} {w d s q : Int} : ∀ {z i : Nat}, i < z → enoB (l.getD i r0) w d s q = true → (l.getD i r0).n ≤ findZ l w d s q z
  | z + 1, i, hi, he => by
    unfold findZ
    by_cases e : i = z
    · subst e
      rw [he]
      simp only [cond_true]
      split <;> omega
    · have := findZ_ge (z := z) (i := i) (by omega) he
      cases enoB (l.getD z r0) w d s q with
      | true => simp only [cond_true]; split <;> omega
      | false => exact this
theorem findZ_from {l : List Row} {w d s q : Int} : ∀ {z : Nat}, findZ l w d s q z = 0 ∨ ∃ i, i < z ∧ enoB (l.getD i r0) w d s q = true ∧ (l.getD i r0).n = findZ l w d s q z
  | 0 => .inl rfl
  | z + 1 => by
    have ih := findZ_from (l := l) (w := w) (d := d) (s := s) (q := q) (z := z)
    have up : (findZ l w d s q z = 0 ∨ ∃ i, i < z + 1 ∧ enoB (l.getD i r0) w d s q = true ∧ (l.getD i r0).n = findZ l w d s q z) := by
      rcases ih with h | ⟨i, h1, h2, h3⟩
      · exact .inl h
      · exact .inr ⟨i, by omega, h2, h3⟩
    unfold findZ
    cases he : enoB (l.getD z r0) w d s q with
    | true =>
      simp only [cond_true]
      split
      · exact .inr ⟨z, by omega, he, rfl⟩
      · exact up
    | false => exact up
theorem findZ_nonneg (l : List Row) (w d s q : Int) : ∀ z, 0 ≤ findZ l w d s q z
  | 0 => Int.le_refl _
  | z + 1 => by
    have := findZ_nonneg l w d s q z
    unfold findZ
    cases enoB (l.getD z r0) w d s q with
    | true => simp only [cond_true]; split <;> omega
    | false => exact this
theorem findZ_le {l : List Row} {w d s q : Int} {B : Int} (h0 : 0 ≤ B) : ∀ {z : Nat}, (∀ i, i < z → (l.getD i r0).n ≤ B) → findZ l w d s q z ≤ B
  | 0, _ => h0
  | z + 1, h => by
    have := findZ_le h0 (z := z) (l := l) (w := w) (d := d) (s := s) (q := q) fun i hi => h i (by omega)
    have hz := h z (by omega)
    unfold findZ
    cases enoB (l.getD z r0) w d s q with
    | true => simp only [cond_true]; split <;> omega
    | false => exact this
theorem eno_self (x : Row) : enoB x x.w x.d x.s x.q = true := by
  unfold enoB
  simp only [Bool.and_eq_true, leB_iff]
  omega
theorem tab_own {l : List Row} (h : tabE l = 0) {i : Nat} (hi : i < l.length) : findE l (l.getD i r0).w (l.getD i r0).d (l.getD i r0).s (l.getD i r0).q = 0 ∧ findV l (l.getD i r0).w (l.getD i r0).d (l.getD i r0).s (l.getD i r0).q = findR l (l.getD i r0).w (l.getD i r0).d (l.getD i r0).s (l.getD i r0).q ∧
    (l.getD i r0).n ≤ findR l (l.getD i r0).w (l.getD i r0).d (l.getD i r0).s (l.getD i r0).q := by
  obtain ⟨h1, h2⟩ := rowE_ok ((tabE_ok h).2 i hi)
  have h3 : (l.getD i r0).n ≤ findR l (l.getD i r0).w (l.getD i r0).d (l.getD i r0).s (l.getD i r0).q := findZ_ge hi (eno_self _)
  have h4 := (between_iff.1 h2).1
  have e : findE l (l.getD i r0).w (l.getD i r0).d (l.getD i r0).s (l.getD i r0).q = 0 := by
    unfold findE askE
    rw [h, h1, show (findR l (l.getD i r0).w (l.getD i r0).d (l.getD i r0).s (l.getD i r0).q == 0) = false from beq_false_of_ne (by omega)]
    rfl
  exact ⟨e, by unfold findV; rw [e]; rfl, h3⟩
structure Sz where
  k : Int
  w : Int
  d : Int
deriving DecidableEq
abbrev s0 : Sz := ⟨0, 0, 0⟩
instance : Enc Sz := ⟨3, ⟨0, 0, 0⟩, fun c => listFn [.i c.k, .i c.w, .i c.d], fun cs => ⟨AV.int (cs 0), AV.int (cs 1), AV.int (cs 2)⟩,
  fun cs => isI64 (cs 0) && isI64 (cs 1) && isI64 (cs 2), fun cs h j hj => by
  simp only [Bool.and_eq_true] at h
  match j, hj with
  | 0, _ => exact avM_of_eq (isI64_eq h.1.1)
  | 1, _ => exact avM_of_eq (isI64_eq h.1.2)
  | 2, _ => exact avM_of_eq (isI64_eq h.2)⟩
instance : LawEnc Sz := ⟨fun _ => rfl, fun _ => rfl⟩
def ordS (a b : Sz) : Int := bif a.w * a.d - b.w * b.d != 0 then a.w * a.d - b.w * b.d else a.w - b.w
def okS (a : Sz) : Bool := between a.w 0 1000 && between a.d 0 1000
theorem okS_iff {a : Sz} (h : okS a = true) : (0 ≤ a.w ∧ a.w ≤ 1000) ∧ (0 ≤ a.d ∧ a.d ≤ 1000) ∧ 0 ≤ a.w * a.d ∧ a.w * a.d ≤ 1000000 := by
  unfold okS at h
  rw [Bool.and_eq_true, between_iff, between_iff] at h
  obtain ⟨h1, h2⟩ := h
  refine ⟨h1, h2, Int.mul_nonneg h1.1 h2.1, ?_⟩
  calc a.w * a.d ≤ 1000 * a.d := Int.mul_le_mul_of_nonneg_right h1.2 h2.1
    _ ≤ 1000000 := by omega
end Go.Ar
