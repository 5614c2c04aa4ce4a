/- Tables of allowed spans: what the package span answers, as plain functions. -/
import Derived.Test.YtdkpceodckdcfaaGreatDoorArA
set_option linter.unusedSimpArgs false
set_option linter.unusedVariables false
namespace Go.Ar
open Go Go.Sx Go.Lib
set_option maxRecDepth 100000
structure Row where
 w : Int
 d : Int
 s : Int
 q : Int
 n : Int
deriving DecidableEq
abbrev r0 : Row := ⟨0, 0, 0, 0, 0⟩
instance : Enc Row := ⟨5, ⟨0, 0, 0, 0, 0⟩, fun c => listFn [.i c.w, .i c.d, .i c.s, .i c.q, .i c.n], fun cs => ⟨AV.int (cs 0), AV.int (cs 1), AV.int (cs 2), AV.int (cs 3), AV.int (cs 4)⟩,
 fun cs => isI64 (cs 0) && isI64 (cs 1) && isI64 (cs 2) && isI64 (cs 3) && isI64 (cs 4), fun cs h j hj => by
 simp only [Bool.and_eq_true] at h
 match j, hj with
 | 0, _ => exact avM_of_eq (isI64_eq h.1.1.1.1)
 | 1, _ => exact avM_of_eq (isI64_eq h.1.1.1.2)
 | 2, _ => exact avM_of_eq (isI64_eq h.1.1.2)
 | 3, _ => exact avM_of_eq (isI64_eq h.1.2)
 | 4, _ => exact avM_of_eq (isI64_eq h.2)⟩
instance : LawEnc Row := ⟨fun _ => rfl, fun _ => rfl⟩
def rowsOf (x : AV) : List Row := slD x
theorem okR (f : Bool) (l : List Row) : slOk Row (AV.xl f 5 l.length fun i j => Enc.enc (l.getD i r0) j) = true := slOk_xl f l
theorem okR' (f : Bool) (l : List Row) : slOk Row (AV.xl f 5 l.length fun i j => Enc.enc (l.getD i Enc.dflt) j) = true := slOk_xl f l
theorem deR (f : Bool) (l : List Row) : slD (AV.xl f 5 l.length fun i j => Enc.enc (l.getD i r0) j) = l := slD_xl f l 5
theorem deR' (f : Bool) (l : List Row) : slD (AV.xl f 5 l.length fun i j => Enc.enc (l.getD i Enc.dflt) j) = l := slD_xl f l 5
theorem deRo (f : Bool) (l : List Row) : rowsOf (AV.xl f 5 l.length fun i j => Enc.enc (l.getD i r0) j) = l := slD_xl f l 5
theorem deRo' (f : Bool) (l : List Row) : rowsOf (AV.xl f 5 l.length fun i j => Enc.enc (l.getD i Enc.dflt) j) = l := slD_xl f l 5
theorem agD_row (b : Row) : agD (.agg 5 fun i => Enc.enc b i) = b := agD_agE b
theorem agOk_row (b : Row) : agOk Row (.agg 5 fun i => Enc.enc b i) = true := agOk_agE b
theorem agD_row' (b : Row) (g : Nat → AV) : agD (.agg 5 fun i => if i < 5 then Enc.enc b i else g i) = b := LawEnc.dec b
theorem agOk_row' (b : Row) (g : Nat → AV) : agOk Row (.agg 5 fun i => if i < 5 then Enc.enc b i else g i) = true := agOk_agE b
def between (n a b : Int) : Bool := leB a n && leB n b
theorem between_iff {n a b : Int} : between n a b = true ↔ a ≤ n ∧ n ≤ b := by unfold between; rw [Bool.and_eq_true, leB_iff, leB_iff]
def condB (s q : Int) : Bool := between s 1 65536 && between q 0 1048576
def rangB (w d s q : Int) : Bool := between w 1 1000 && between d 1 1000 && condB s q
def ordR (a b : Row) : Int := bif a.w - b.w != 0 then a.w - b.w else bif a.d - b.d != 0 then a.d - b.d else bif a.s - b.s != 0 then a.s - b.s else a.q - b.q
def rowE (l : List Row) (i : Nat) : Int :=
 bif !rangB (l.getD i r0).w (l.getD i r0).d (l.getD i r0).s (l.getD i r0).q || !between (l.getD i r0).n 1 65536 then 2
 else bif Nat.blt 0 i && leB 0 (ordR (l.getD (i - 1) r0) (l.getD i r0)) then 10 else 0
def tabE (l : List Row) : Int := bif Nat.blt 4096 l.length then 4 else firstN (rowE l) l.length 0
def enoB (x : Row) (w d s q : Int) : Bool := leB x.w w && leB x.d d && leB s x.s && leB q x.q
def findZ (l : List Row) (w d s q : Int) : Nat → Int
 | 0 => 0
 | z + 1 => bif enoB (l.getD z r0) w d s q then (if (l.getD z r0).n > findZ l w d s q z then (l.getD z r0).n else findZ l w d s q z) else findZ l w d s q z
def findR (l : List Row) (w d s q : Int) : Int := findZ l w d s q l.length
def askE (l : List Row) (w d s q : Int) : Int := bif tabE l != 0 then 1 else bif !rangB w d s q then 2 else 0
def findE (l : List Row) (w d s q : Int) : Int := bif askE l w d s q != 0 then askE l w d s q else bif findR l w d s q == 0 then 25 else 0
def findV (l : List Row) (w d s q : Int) : Int := bif findE l w d s q == 0 then findR l w d s q else 0
theorem tabE_ok {l : List Row} (h : tabE l = 0) : l.length ≤ 4096 ∧ ∀ i, i < l.length → rowE l i = 0 := by
 unfold tabE at h
 cases h1 : Nat.blt 4096 l.length with
 | true => rw [h1] at h; cases h
 | false =>
  rw [h1] at h
  have h : firstN (rowE l) l.length 0 = 0 := h
  refine ⟨by rw [Bool.eq_false_iff, Ne, blt_iff] at h1; omega, fun i => ?_⟩
  induction i using Nat.strongRecOn with
  | _ i ih =>
   intro hi
   refine Decidable.byContradiction fun hn => ?_
   rw [firstN_at hi (fun j hj => ih j hj (by omega)) hn] at h
   exact hn h
theorem rowE_ok {l : List Row} {i : Nat} (h : rowE l i = 0) : rangB (l.getD i r0).w (l.getD i r0).d (l.getD i r0).s (l.getD i r0).q = true ∧ between (l.getD i r0).n 1 65536 = true := by
 unfold rowE at h
 cases h1 : !rangB (l.getD i r0).w (l.getD i r0).d (l.getD i r0).s (l.getD i r0).q || !between (l.getD i r0).n 1 65536 with
 | true => rw [h1] at h; cases h
 | false =>
  rw [Bool.or_eq_false_iff, Bool.not_eq_false', Bool.not_eq_false'] at h1
  exact h1
theorem findZ_nonneg (l : List Row) (w d s q : Int) : ∀ z, 0 ≤ findZ l w d s q z
 | 0 => Int.le_refl _
 | z + 1 => by
  have := findZ_nonneg l w d s q z
  unfold findZ
  cases enoB (l.getD z r0) w d s q with
  | true => simp only [cond_true]; split <;> omega
  | false => exact this
theorem findZ_le {l : List Row} {w d s q : Int} {B : Int} (h0 : 0 ≤ B) : ∀ {z : Nat}, (∀ i, i < z → (l.getD i r0).n ≤ B) → findZ l w d s q z ≤ B
 | 0, _ => h0
 | z + 1, h => by
  have := findZ_le h0 (z := z) (l := l) (w := w) (d := d) (s := s) (q := q) fun i hi => h i (by omega)
  have hz := h z (by omega)
  unfold findZ
  cases enoB (l.getD z r0) w d s q with
  | true => simp only [cond_true]; split <;> omega
  | false => exact this
structure Sz where
 k : Int
 w : Int
 d : Int
deriving DecidableEq
abbrev s0 : Sz := ⟨0, 0, 0⟩
instance : Enc Sz := ⟨3, ⟨0, 0, 0⟩, fun c => listFn [.i c.k, .i c.w, .i c.d], fun cs => ⟨AV.int (cs 0), AV.int (cs 1), AV.int (cs 2)⟩,
 fun cs => isI64 (cs 0) && isI64 (cs 1) && isI64 (cs 2), fun cs h j hj => by
 simp only [Bool.and_eq_true] at h
 match j, hj with
 | 0, _ => exact avM_of_eq (isI64_eq h.1.1)
 | 1, _ => exact avM_of_eq (isI64_eq h.1.2)
 | 2, _ => exact avM_of_eq (isI64_eq h.2)⟩
instance : LawEnc Sz := ⟨fun _ => rfl, fun _ => rfl⟩
def ordS (a b : Sz) : Int := bif a.w * a.d - b.w * b.d != 0 then a.w * a.d - b.w * b.d else a.w - b.w
def okS (a : Sz) : Bool := between a.w 0 1000 && between a.d 0 1000
theorem okS_iff {a : Sz} (h : okS a = true) : (0 ≤ a.w ∧ a.w ≤ 1000) ∧ (0 ≤ a.d ∧ a.d ≤ 1000) ∧ 0 ≤ a.w * a.d ∧ a.w * a.d ≤ 1000000 := by
 unfold okS at h
 rw [Bool.and_eq_true, between_iff, between_iff] at h
 obtain ⟨h1, h2⟩ := h
 refine ⟨h1, h2, Int.mul_nonneg h1.1 h2.1, ?_⟩
 calc a.w * a.d ≤ 1000 * a.d := Int.mul_le_mul_of_nonneg_right h1.2 h2.1
  _ ≤ 1000000 := by omega
end Go.Ar
