/- What the arguments read as; the table. -/
import Derived.Test.YtojonobehnbeiaaDoorTdM
import Derived.Test.YtojonobehnbeiaaDoorTdK
import Derived.ChangeArms
import Derived.Lib.LaidTab
namespace Go.Td
open Go Go.Sx Go.Proofs Go.RowKit
set_option maxRecDepth 100000

section
variable {H : Type} {enc : TypeId × Value → H} {W : World} {spare : Nat → Bool} {held : Bool}

theorem cells_at {base n : Nat} {A : Addr} {cs : List Value} (h : W.cells? base A n = some cs) : cs.length = n ∧ ∀ i, i < n → W.cell? (A.add i) = some (cs.getD i undef) := by
  unfold World.cells? at h
  split at h
  · refine ⟨by simpa using Lib.mapM_length h, fun i hi => ?_⟩
    obtain ⟨b, hb, hf⟩ := Lib.mapM_at h i i (by simp [hi])
    rw [hf, List.getD_eq_getElem?_getD, hb, Option.getD_some]
  · cases h
theorem cell_lt {A : Addr} {v : Value} (h : W.cell? A = some v) : A.block < W.heap.size := by
  rcases Nat.lt_or_ge A.block W.heap.size with h' | h'
  · exact h'
  · simp [World.cell?, Array.getElem?_eq_none h'] at h
theorem cells3 : Tryd.prog.cellsOf 3 = 1 := by kernel_rfl
theorem cells30 : Tryd.prog.cellsOf 30 = 1 := by kernel_rfl
theorem cells32 : Tryd.prog.cellsOf 32 = 3 := by kernel_rfl

abbrev Old (W : World) : Nat → Prop := fun b => b < W.heap.size

theorem read_int {n : Nat} {cs : List Value} {x : DataW H × List MemPlace} (h : DataW.trod enc Tryd.prog W 0 spare held n 3 cs = some x) : ∃ m, cs = [.int .i64 m] ∧ inK .i64 m := by
  obtain ⟨m, h1, _, h3⟩ := DataW.trod_int Tryd.underlying3 h
  refine ⟨m, h1, ?_⟩
  simp only [Lit.wf, Bool.and_eq_true, decide_eq_true_eq] at h3
  exact h3

theorem read_ints {n : Nat} {cs : List Value} {x : DataW H × List MemPlace} (h : DataW.trod enc Tryd.prog W 0 spare held n 30 cs = some x) :
    ∃ (v : Value) (l : List Int), cs = [v] ∧ v.oneCell' = true ∧ Rel W (Old W) rho0 (slE l) v ∧ ∀ j, inK .i64 (l.getD j 0) := by
  rcases DataW.trod_slice Tryd.underlying30 h with ⟨h1, _⟩ | ⟨a, len, cap, elems, rest, m, _, h1, _, _, h2, h3, h4, h5, _, _⟩
  · exact ⟨_, [], h1, rfl, .xl none 0 (fun _ _ => undef) (Nat.le_refl _) (Nat.zero_le _) (fun _ => rfl) (fun i j hi => absurd hi (Nat.not_lt_zero _)) (fun i j hi => absurd hi (Nat.not_lt_zero _)), fun j => by simp [inK]⟩
  · rw [cells3] at h5
    have key : ∀ i, ∃ z : Int, inK .i64 z ∧ (i < len → W.cell? (a.add (i * 1)) = some (.int .i64 z)) := fun i => by
      by_cases hi : i < len
      · have := h5 i hi
        rw [List.getElem?_eq_getElem (by omega)] at this
        obtain ⟨cs', hc, hd⟩ := Option.bind_eq_some_iff.1 this
        obtain ⟨z, hz, hk⟩ := read_int hd
        refine ⟨z, hk, fun _ => ?_⟩
        have := (cells_at hc).2 0 (by omega)
        rw [hz, add_of_add, Nat.add_zero] at this
        exact this
      · exact ⟨0, by simp [inK], fun h => absurd h hi⟩
    obtain ⟨f, hf⟩ : ∃ f : Nat → Int, ∀ i, inK .i64 (f i) ∧ (i < len → W.cell? (a.add (i * 1)) = some (.int .i64 (f i))) := ⟨fun i => Classical.choose (key i), fun i => Classical.choose_spec (key i)⟩
    have hg : ∀ i, i < len → (listOf len f).getD i 0 = f i := fun i hi => by simp [listOf, List.getD_eq_getElem?_getD, hi]
    have hlen : (listOf len f).length = len := by simp [listOf]
    refine ⟨_, listOf len f, h1, rfl, ?_, fun j => ?_⟩
    · unfold slE
      rw [hlen]
      refine .xl (some a) cap (fun i _ => .int .i64 (f i)) h2 h3 (fun e => by cases e) (fun i j hi hj => ?_) (fun i j hi hj => ?_)
      · have hj' : j = 0 := by have : j < 1 := hj; omega
        subst hj'
        have hc := (hf i).2 hi
        refine ⟨a, rfl, ?_, ?_, rfl⟩
        · have := cell_lt hc
          rw [block_of_add] at this
          exact this
        · exact hc
      · show Rel W (Old W) rho0 (.i ((listOf len f).getD i 0)) (.int .i64 (f i))
        rw [hg i hi]
        exact .v _
    · by_cases hj : j < len
      · rw [hg j hj]; exact (hf j).1
      · rw [List.getD_eq_getElem?_getD, List.getElem?_eq_none (by omega)]; simp [inK]

theorem read_used {n : Nat} {cs : List Value} {x : DataW H × List MemPlace} (h : DataW.trod enc Tryd.prog W 0 spare held n 32 cs = some x) :
    ∃ u : Used, (∀ j, j < 3 → Rel W (Old W) rho0 (Enc.enc u j) (cs.getD j undef) ∧ (cs.getD j undef).oneCell' = true) ∧ inK .i64 u.bar ∧ (∀ j, inK .i64 (u.ps.getD j 0)) ∧ ∀ j, inK .i64 (u.at_.getD j 0) := by
  obtain ⟨xs, m, _, _, hl, hx, hf⟩ := DataW.trod_struct Tryd.underlying32 h
  rw [cells32] at hl
  match cs, hl with
  | [c0, c1, c2], _ =>
  have hx3 : xs.length = 3 := hx
  have g0 : DataW.trod enc Tryd.prog W 0 spare held m 3 (([c0, c1, c2].drop 0).take (Tryd.prog.cellsOf 3)) = xs[0]? := hf 0 _ rfl
  have g1 : DataW.trod enc Tryd.prog W 0 spare held m 30 (([c0, c1, c2].drop 1).take (Tryd.prog.cellsOf 30)) = xs[1]? := hf 1 _ rfl
  have g2 : DataW.trod enc Tryd.prog W 0 spare held m 30 (([c0, c1, c2].drop 2).take (Tryd.prog.cellsOf 30)) = xs[2]? := hf 2 _ rfl
  rw [cells3] at g0
  rw [cells30] at g1 g2
  rw [List.getElem?_eq_getElem (by omega)] at g0 g1 g2
  obtain ⟨z, hz, hk⟩ := read_int g0
  obtain ⟨v1, l1, e1, o1, r1, k1⟩ := read_ints g1
  obtain ⟨v2, l2, e2, o2, r2, k2⟩ := read_ints g2
  simp only [List.drop_zero, List.take_succ_cons, List.take_zero, List.cons.injEq, and_true] at hz
  simp only [List.drop_succ_cons, List.drop_zero, List.take_succ_cons, List.take_zero, List.cons.injEq, and_true] at e1 e2
  subst hz e1 e2
  refine ⟨⟨z, l1, l2⟩, fun j hj => ?_, hk, k1, k2⟩
  match j, hj with
  | 0, _ => exact ⟨.v _, rfl⟩
  | 1, _ => exact ⟨r1, o1⟩
  | 2, _ => exact ⟨r2, o2⟩

theorem read_useds {v : Value} {d : DataW H} {ps : List MemPlace} (h : DataW.Trod enc Tryd.prog W 0 spare held 22 v d ps) :
    (∃ cs, v = .agg cs) ∨ ∃ l : List Used, Rel W (Old W) rho0 (slE l) v ∧ InR l := by
  obtain ⟨n, h⟩ := h
  by_cases hagg : ∃ cs, v = .agg cs
  · exact .inl hagg
  refine .inr ?_
  have hcs : v.cells.toList = [v] := by
    cases v <;> first | rfl | exact absurd ⟨_, rfl⟩ hagg
  rw [hcs] at h
  rcases DataW.trod_slice Tryd.underlying22 h with ⟨h1, _⟩ | ⟨a, len, cap, elems, rest, m, _, h1, _, _, h2, h3, h4, h5, _, _⟩
  · obtain rfl : v = .slice none 0 0 := by simpa using h1
    exact ⟨[], .xl none 0 (fun _ _ => undef) (Nat.le_refl _) (Nat.zero_le _) (fun _ => rfl) (fun i j hi => absurd hi (Nat.not_lt_zero _)) (fun i j hi => absurd hi (Nat.not_lt_zero _)), fun i => ⟨by simp [inK, Enc.dflt], fun j => by simp [inK, Enc.dflt]⟩⟩
  · obtain rfl : v = .slice (some a) len cap := by simpa using h1
    rw [cells32] at h5
    have key : ∀ i, ∃ u : Used, (i < len → ∀ j, j < 3 → ∃ c, W.cell? (a.add (i * 3 + j)) = some c ∧ Rel W (Old W) rho0 (Enc.enc u j) c ∧ c.oneCell' = true) ∧ inK .i64 u.bar ∧ ∀ j, inK .i64 (u.ps.getD j 0) ∧ inK .i64 (u.at_.getD j 0) := fun i => by
      by_cases hi : i < len
      · have := h5 i hi
        rw [List.getElem?_eq_getElem (by omega)] at this
        obtain ⟨cs', hc, hd⟩ := Option.bind_eq_some_iff.1 this
        obtain ⟨u, h6, h7, h8, h9⟩ := read_used hd
        refine ⟨u, fun _ j hj => ⟨cs'.getD j undef, ?_, h6 j hj⟩, h7, fun j => ⟨h8 j, h9 j⟩⟩
        have := (cells_at hc).2 j hj
        rw [add_of_add] at this
        exact this
      · exact ⟨Enc.dflt, fun h => absurd h hi, by simp [inK, Enc.dflt], fun j => by simp [inK, Enc.dflt]⟩
    obtain ⟨f, hf⟩ : ∃ f : Nat → Used, ∀ i, (i < len → ∀ j, j < 3 → ∃ c, W.cell? (a.add (i * 3 + j)) = some c ∧ Rel W (Old W) rho0 (Enc.enc (f i) j) c ∧ c.oneCell' = true) ∧ inK .i64 (f i).bar ∧ ∀ j, inK .i64 ((f i).ps.getD j 0) ∧ inK .i64 ((f i).at_.getD j 0) :=
      ⟨fun i => Classical.choose (key i), fun i => Classical.choose_spec (key i)⟩
    have hg : ∀ i, i < len → (listOf len f).getD i Enc.dflt = f i := fun i hi => by simp [listOf, List.getD_eq_getElem?_getD, hi]
    have hlen : (listOf len f).length = len := by simp [listOf]
    refine ⟨listOf len f, ?_, fun i => ?_⟩
    · unfold slE
      rw [hlen]
      refine .xl (some a) cap (fun i j => (W.cell? (a.add (i * 3 + j))).getD undef) h2 h3 (fun e => by cases e) (fun i j hi hj => ?_) (fun i j hi hj => ?_)
      · obtain ⟨c, hc, _, ho⟩ := (hf i).1 hi j hj
        refine ⟨a, rfl, ?_, ?_, ?_⟩
        · have := cell_lt hc
          rw [block_of_add] at this
          exact this
        · show W.cell? (a.add (i * 3 + j)) = some _
          rw [hc]; rfl
        · rw [hc]; exact ho
      · obtain ⟨c, hc, hr, _⟩ := (hf i).1 hi j hj
        rw [hg i hi, hc]
        exact hr
    · by_cases hi : i < len
      · rw [hg i hi]; exact (hf i).2
      · rw [List.getD_eq_getElem?_getD, List.getElem?_eq_none (by omega)]
        exact ⟨by simp [inK, Enc.dflt], fun j => by simp [inK, Enc.dflt]⟩
end
end Go.Td
