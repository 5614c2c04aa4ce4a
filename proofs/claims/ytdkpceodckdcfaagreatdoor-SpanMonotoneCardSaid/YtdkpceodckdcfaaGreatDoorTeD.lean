/- kingpostlaw53.SpanMonotone. -/
import Derived.Test.YtdkpceodckdcfaaGreatDoorTeA
import Derived.ChangeArms
import Derived.Lib.LaidTab
set_option linter.unusedSimpArgs false
namespace Go.Te
open Go Go.Sx Go.Proofs Go.Ar
set_option maxRecDepth 100000
set_option maxHeartbeats 4000000
def ownZ (l : List Row) : Nat → Bool
  | 0 => true
  | z + 1 => ownZ l z && (findR l (l.getD z r0).w (l.getD z r0).d (l.getD z r0).s (l.getD z r0).q == (l.getD z r0).n)
theorem own_mon {l : List Row} (h : tabE l = 0) : monB l = ownZ l l.length := by
  have key : ∀ z, z ≤ l.length → (!(l.take z).any fun x => ltB x.n (findR l x.w x.d x.s x.q)) = ownZ l z := by
    intro z
    induction z with
    | zero => intro _; rfl
    | succ z ih =>
      intro hz
      rw [take_snoc (d := r0) (by omega), List.any_append, Bool.not_or, ih (by omega)]
      show (ownZ l z && _) = (ownZ l z && _)
      congr 1
      simp only [List.any_cons, List.any_nil, Bool.or_false]
      obtain ⟨_, _, h3⟩ := tab_own h (i := z) (by omega)
      rw [Bool.eq_iff_iff, Bool.not_eq_true', Bool.eq_false_iff, Ne, ltB_iff, beq_iff_eq]
      omega
  have := key l.length (Nat.le_refl _)
  rw [List.take_length] at this
  exact this
noncomputable def Tmo (G : List (Nat × Obj)) : Tb := ((((tb0 G).plus 20 rcheck_t).plus 21 mono_t).plus 16 find_t).plus 13 (inst [] (.b true))
theorem Tmo_sound {G : List (Nat × Obj)} (hG : TabIn G) : TbSound Tryz.prog (Tmo G) :=
  TbSound.plus (TbSound.plus (TbSound.plus (TbSound.plus tb0_sound (PureT.mono rcheck_T)) (PureT.mono mono_T)) (PureT.mono find_T)) (inst_T (awake_C hG))
def lmono_an (l : List Row) : Ann :=
  .two .auto (.two .auto (.two .auto (.two .auto (.two (.two .auto (.one (.loop Nat (fun σ z => [(0, σ.tm 0), (3, σ.tm 3), (4, σ.tm 4), (24, σ.tm 24), (25, σ.tm 25), (5, .b (ownZ l z)), (26, .i z)]) (fun σ z => []) 0 (fun σ z => z ≤ l.length) (fun σ z => l.length - z) .auto))) .auto))))
theorem lmono_vc (G : List (Nat × Obj)) (l : List Row) :
 let q2 := (ltB (12 : Int) (↑(List.length l) : Int)); let q1 := (!bsel false q2 || bsel false q2); let q3 := (AV.xl false 5 (List.length l) fun i j => Enc.enc (List.getD l i Enc.dflt) j); let q4 := (rowsOf q3); let q5 := (slOk Row q3); let q6 := (IntKind.i64 = .i64 ∧ monE q4 = monE q4); let q7 := (IntKind.i64 = .i64 ∧ (↑(List.length l) : Int) = (↑(List.length l) : Int)); let q17 := (monE q4 == (0 : Int)); let q16 := (!bsel true q17 || bsel true q17); bndL [AV.xl false 5 (List.length l) fun i j => Enc.enc (List.getD l i Enc.dflt) j] → bsplit q1 (bsplit (!bsel false q2 || slOk Row q3) (bsplit q1
 (bsplit (!!ltB (12 : Int) (↑(List.length l) : Int) || bsel false q2) (bsplit (bif ltB (12 : Int) (↑(List.length l) : Int) then true else tabE q4 != (0 : Int)) (Wk [] [] ∧ true = true) (bsplit q5 ((∃ (z : Nat), (z ≤ List.length l ∧ avM q3 q3 ∧ monV q4 = monV q4 ∧ q6 ∧ avM q3 q3 ∧ q7 ∧ true = ownZ l z ∧ IntKind.i64 = .i64 ∧ (0 : Int) = (↑z : Int)) ∧ True) ∧ ∀ (z : Nat), let q11 := (List.getD l (Int.toNat (↑z : Int)) Enc.dflt); let q10 := (Row.w q11); let q12 := (Row.d q11); let q13 := (Row.s q11); let q14 := (Row.q q11); let q9 := (findE q4 q10 q12 q13 q14 != (0 : Int)); let q8 := (!bsel false q9
 || bsel false q9); let q15 := (!bsel true (ownZ l z) || bsel true (ownZ l z)); let q18 := (bif monE q4 == (0 : Int) then monV q4 == ownZ l z else false); z ≤ List.length l → bsplit (ltB (↑z : Int) (↑(List.length l) : Int)) (bsplit (DB.db ((0 : Int) ≤ (↑z : Int) ∧ (↑z : Int) < (↑(List.length l) : Int))) (bsplit q5 (bsplit q8 (bsplit q8 (bsplit q8 (bsplit (!!findE q4 q10 q12 q13 q14 != (0 : Int) || bsel false q9) (bsplit (bif findE q4 q10 q12 q13 q14 != (0 : Int) then true else ltB (findV q4 q10 q12 q13 q14) (Row.n q11)) (false = true) (bsplit q15 (bsplit q15 (bsplit q15 (bsplit (!ownZ l z ||
 bsel true (ownZ l z)) (bsplit (DB.db (inK .i64 ((↑z : Int) + (1 : Int)))) (∃ (z' : Nat), ((z' ≤ List.length l ∧ List.length l - z' < List.length l - z) ∧ avM q3 q3 ∧ monV q4 = monV q4 ∧ q6 ∧ avM q3 q3 ∧ q7 ∧ (bif ownZ l z then findV q4 q10 q12 q13 q14 == Row.n q11 else false) = ownZ l z' ∧ IntKind.i64 = .i64 ∧ (↑z : Int) + (1 : Int) = (↑z' : Int)) ∧ True) False) False) False) False) False)) False) False) False) False) False) False) (bsplit q16 (bsplit q16 (bsplit (!monE q4 == (0 : Int) || bsel true q17) ((bsel true q18 = true → Wk [] []) ∧ bsplit ((!bif monE q4 == (0 : Int) then monV q4 == ownZ
 l z else false) || bsel true q18) ((bif bif monE q4 == (0 : Int) then monV q4 == ownZ l z else false then true else false) = true) False) False) False) False)) False)) False) False) False) False := by
  dsimp only
  intro hb
  have e2 : (Enc.dflt : Row) = r0 := rfl
  simp only [avM_refl, true_and, and_true, bsel_true, bsel_false, vc_own, bif_or, bif_and, vc_gdb, vc_db, vc_lt, vc_le, vc_ne, vc_eq, vc_tt, Int.toNat_natCast, Nat.zero_add, Nat.zero_le, Nat.sub_zero, int_i, Bool.or_true, cond_true, cond_false, agD_row, agOk_row, agD_row', agOk_row', okIn, okIn', deI, deI', okR, okR', deR, deR', deRo, deRo', e2, ltB_nat, pred_nat]
  have hb1 : l.length ≤ 9223372036854775807 := hb.1
  refine bsplit_iff.2 ⟨fun _ => Wk.refl _, fun hg => ⟨⟨0, Nat.zero_le _, rfl, rfl⟩, fun z hz => ⟨fun hlt => ⟨⟨by omega, hlt⟩, ?_⟩, fun hge => ?_⟩⟩⟩
  · rw [Bool.or_eq_false_iff, bne_eq_false_iff_eq] at hg
    obtain ⟨t1, t2, t3⟩ := tab_own hg.2 (i := z) (by omega)
    rw [t1, t2, show ltB (findR l (l.getD z r0).w (l.getD z r0).d (l.getD z r0).s (l.getD z r0).q) (l.getD z r0).n = false by rw [Bool.eq_false_iff, Ne, ltB_iff]; omega]
    exact ⟨⟨by omega, by omega⟩, z + 1, ⟨by omega, by omega⟩, rfl, by omega⟩
  · rw [Bool.or_eq_false_iff, bne_eq_false_iff_eq] at hg
    have e1 : monE l = 0 := by unfold monE; rw [hg.2]; rfl
    have e2 : monV l = ownZ l z := by unfold monV; rw [hg.2, show z = l.length by omega]; exact own_mon hg.2
    rw [e1, e2]
    exact ⟨fun _ => Wk.refl _, by simp⟩
theorem lmono_C {G : List (Nat × Obj)} (hG : TabIn G) (l : List Row) : PureCall Tryz.prog G 6 [slE l] (.b true) :=
  pure_of_vc mixed (Tmo_sound hG) (Eq.mp (by kernel_rfl) (lmono_vc G l) : vcFn Tryz.prog (Tmo G) 6 (lmono_an l) [slE l] (.b true))
end Go.Te

set_option linter.unusedSimpArgs false
namespace Go.Te
open Go Go.Sx Go.Proofs Go.Ar Go.RowKit
set_option maxRecDepth 100000
section
variable {H : Type} {enc : TypeId × Value → H} {W : World} {spare : Nat → Bool} {held : Bool}
theorem cells_at {base n : Nat} {A : Addr} {cs : List Value} (h : W.cells? base A n = some cs) : cs.length = n ∧ ∀ i, i < n → W.cell? (A.add i) = some (cs.getD i undef) := by
  unfold World.cells? at h
  split at h
  · refine ⟨by simpa using Lib.mapM_length h, fun i hi => ?_⟩
    obtain ⟨b, hb, hf⟩ := Lib.mapM_at h i i (by simp [hi])
    rw [hf, List.getD_eq_getElem?_getD, hb, Option.getD_some]
  · cases h
theorem cell_lt {A : Addr} {v : Value} (h : W.cell? A = some v) : A.block < W.heap.size := by
  rcases Nat.lt_or_ge A.block W.heap.size with h' | h'
  · exact h'
  · simp [World.cell?, Array.getElem?_eq_none h'] at h
theorem cellsInt : Tryz.prog.cellsOf 3 = 1 := by kernel_rfl
abbrev Old (W : World) : Nat → Prop := fun b => b < W.heap.size
def Tells {α : Type} [Enc α] (W : World) (a : α) (cs : List Value) : Prop :=
  ∀ j, j < Enc.n α → Rel W (Old W) rho0 (Enc.enc a j) (cs.getD j undef) ∧ (cs.getD j undef).oneCell' = true
theorem read_int {n : Nat} {cs : List Value} {x : DataW H × List MemPlace} (h : DataW.trod enc Tryz.prog W 0 spare held n 3 cs = some x) : ∃ m, cs = [.int .i64 m] ∧ inK .i64 m := by
  obtain ⟨m, h1, _, h3⟩ := DataW.trod_int Tryz.underlying3 h
  refine ⟨m, h1, ?_⟩
  simp only [Lit.wf, Bool.and_eq_true, decide_eq_true_eq] at h3
  exact h3
theorem read_slice {α : Type} [Enc α] {t e : TypeId} (hu : Tryz.prog.underlying t = some (.slice e)) (hn : Tryz.prog.cellsOf e = Enc.n α) {Good : α → Prop} (hd : Good Enc.dflt)
    (hel : ∀ {n : Nat} {cs : List Value} {x : DataW H × List MemPlace}, DataW.trod enc Tryz.prog W 0 spare held n e cs = some x → ∃ a : α, Tells W a cs ∧ Good a)
    {n : Nat} {cs : List Value} {x : DataW H × List MemPlace} (h : DataW.trod enc Tryz.prog W 0 spare held n t cs = some x) :
    ∃ (v : Value) (l : List α), cs = [v] ∧ v.oneCell' = true ∧ Rel W (Old W) rho0 (slE l) v ∧ ∀ j, Good (l.getD j Enc.dflt) := by
  rcases DataW.trod_slice hu h with ⟨h1, _⟩ | ⟨a, len, cap, elems, rest, m, _, h1, _, _, h2, h3, h4, h5, _, _⟩
  · exact ⟨_, [], h1, rfl, .xl none 0 (fun _ _ => undef) (Nat.le_refl _) (Nat.zero_le _) (fun _ => rfl) (fun i j hi => absurd hi (Nat.not_lt_zero _)) (fun i j hi => absurd hi (Nat.not_lt_zero _)), fun j => by simpa using hd⟩
  · rw [hn] at h5
    have key : ∀ i, ∃ u : α, (i < len → ∀ j, j < Enc.n α → ∃ c, W.cell? (a.add (i * Enc.n α + j)) = some c ∧ Rel W (Old W) rho0 (Enc.enc u j) c ∧ c.oneCell' = true) ∧ Good u := fun i => by
      by_cases hi : i < len
      · have := h5 i hi
        rw [List.getElem?_eq_getElem (by omega)] at this
        obtain ⟨cs', hc, hd'⟩ := Option.bind_eq_some_iff.1 this
        obtain ⟨u, h6, h7⟩ := hel hd'
        refine ⟨u, fun _ j hj => ⟨cs'.getD j undef, ?_, h6 j hj⟩, h7⟩
        have := (cells_at hc).2 j hj
        rw [add_of_add] at this
        exact this
      · exact ⟨Enc.dflt, fun h => absurd h hi, hd⟩
    obtain ⟨f, hf⟩ : ∃ f : Nat → α, ∀ i, (i < len → ∀ j, j < Enc.n α → ∃ c, W.cell? (a.add (i * Enc.n α + j)) = some c ∧ Rel W (Old W) rho0 (Enc.enc (f i) j) c ∧ c.oneCell' = true) ∧ Good (f i) :=
      ⟨fun i => Classical.choose (key i), fun i => Classical.choose_spec (key i)⟩
    have hg : ∀ i, i < len → (listOf len f).getD i Enc.dflt = f i := fun i hi => by simp [listOf, List.getD_eq_getElem?_getD, hi]
    have hlen : (listOf len f).length = len := by simp [listOf]
    refine ⟨_, listOf len f, h1, rfl, ?_, fun i => ?_⟩
    · unfold slE
      rw [hlen]
      refine .xl (some a) cap (fun i j => (W.cell? (a.add (i * Enc.n α + j))).getD undef) h2 h3 (fun e => by cases e) (fun i j hi hj => ?_) (fun i j hi hj => ?_)
      · obtain ⟨c, hc, _, ho⟩ := (hf i).1 hi j hj
        refine ⟨a, rfl, ?_, ?_, ?_⟩
        · have := cell_lt hc
          rw [block_of_add] at this
          exact this
        · show W.cell? (a.add (i * Enc.n α + j)) = some _
          rw [hc]; rfl
        · rw [hc]; exact ho
      · obtain ⟨c, hc, hr, _⟩ := (hf i).1 hi j hj
        rw [hg i hi, hc]
        exact hr
    · by_cases hi : i < len
      · rw [hg i hi]; exact (hf i).2
      · rw [List.getD_eq_getElem?_getD, List.getElem?_eq_none (by omega)]
        exact hd
theorem read_intE {n : Nat} {cs : List Value} {x : DataW H × List MemPlace} (h : DataW.trod enc Tryz.prog W 0 spare held n 3 cs = some x) : ∃ m : Int, Tells W m cs ∧ inK .i64 m := by
  obtain ⟨m, rfl, h2⟩ := read_int h
  exact ⟨m, fun j hj => by obtain rfl : j = 0 := Nat.lt_one_iff.1 hj; exact ⟨.v _, rfl⟩, h2⟩
theorem read_ints {n : Nat} {cs : List Value} {x : DataW H × List MemPlace} (h : DataW.trod enc Tryz.prog W 0 spare held n 57 cs = some x) :
    ∃ (v : Value) (l : List Int), cs = [v] ∧ v.oneCell' = true ∧ Rel W (Old W) rho0 (slE l) v ∧ ∀ j, inK .i64 (l.getD j Enc.dflt) :=
  read_slice (α := Int) Tryz.underlying57 cellsInt (by simp [inK, Enc.dflt]) read_intE h
theorem cellsrow : Tryz.prog.cellsOf 38 = 5 := by kernel_rfl
theorem read_row {n : Nat} {cs : List Value} {x : DataW H × List MemPlace} (h : DataW.trod enc Tryz.prog W 0 spare held n 38 cs = some x) : ∃ g : Row, Tells W g cs ∧ True := by
  obtain ⟨xs, m, _, _, hl, hx, hf⟩ := DataW.trod_struct Tryz.underlying38 h
  rw [cellsrow] at hl
  match cs, hl with
  | [c0, c1, c2, c3, c4], _ =>
  have hx3 : xs.length = 5 := hx
  have g0 : DataW.trod enc Tryz.prog W 0 spare held m 3 (([c0, c1, c2, c3, c4].drop 0).take (Tryz.prog.cellsOf 3)) = xs[0]? := hf 0 _ rfl
  have g1 : DataW.trod enc Tryz.prog W 0 spare held m 3 (([c0, c1, c2, c3, c4].drop 1).take (Tryz.prog.cellsOf 3)) = xs[1]? := hf 1 _ rfl
  have g2 : DataW.trod enc Tryz.prog W 0 spare held m 3 (([c0, c1, c2, c3, c4].drop 2).take (Tryz.prog.cellsOf 3)) = xs[2]? := hf 2 _ rfl
  have g3 : DataW.trod enc Tryz.prog W 0 spare held m 3 (([c0, c1, c2, c3, c4].drop 3).take (Tryz.prog.cellsOf 3)) = xs[3]? := hf 3 _ rfl
  have g4 : DataW.trod enc Tryz.prog W 0 spare held m 3 (([c0, c1, c2, c3, c4].drop 4).take (Tryz.prog.cellsOf 3)) = xs[4]? := hf 4 _ rfl
  rw [cellsInt] at g0 g1 g2 g3 g4
  rw [List.getElem?_eq_getElem (by omega)] at g0 g1 g2 g3 g4
  obtain ⟨z0, e0, _⟩ := read_int g0
  obtain ⟨z1, e1, _⟩ := read_int g1
  obtain ⟨z2, e2, _⟩ := read_int g2
  obtain ⟨z3, e3, _⟩ := read_int g3
  obtain ⟨z4, e4, _⟩ := read_int g4
  simp only [List.drop_zero, List.drop_succ_cons, List.take_succ_cons, List.take_zero, List.cons.injEq, and_true] at e0 e1 e2 e3 e4
  subst e0 e1 e2 e3 e4
  refine ⟨⟨z0, z1, z2, z3, z4⟩, fun j hj => ?_, trivial⟩
  match j, hj with
  | 0, _ => exact ⟨.v _, rfl⟩
  | 1, _ => exact ⟨.v _, rfl⟩
  | 2, _ => exact ⟨.v _, rfl⟩
  | 3, _ => exact ⟨.v _, rfl⟩
  | 4, _ => exact ⟨.v _, rfl⟩
theorem read_top {α : Type} [Enc α] {t e : TypeId} (hu : Tryz.prog.underlying t = some (.slice e)) (hn : Tryz.prog.cellsOf e = Enc.n α) {Good : α → Prop} (hd : Good Enc.dflt)
    (hel : ∀ {n : Nat} {cs : List Value} {x : DataW H × List MemPlace}, DataW.trod enc Tryz.prog W 0 spare held n e cs = some x → ∃ a : α, Tells W a cs ∧ Good a)
    {o : Option Addr} {n c : Nat} {d : DataW H} {ps : List MemPlace} (h : DataW.Trod enc Tryz.prog W 0 spare held t (.slice o n c) d ps) :
    ∃ l : List α, Rel W (Old W) rho0 (slE l) (.slice o n c) ∧ ∀ j, Good (l.getD j Enc.dflt) := by
  obtain ⟨m, h⟩ := h
  have hcs : (Value.slice o n c).cells.toList = [.slice o n c] := rfl
  rw [hcs] at h
  obtain ⟨v, l, e1, _, e3, e4⟩ := read_slice hu hn hd hel h
  obtain rfl : Value.slice o n c = v := by simpa using e1
  exact ⟨l, e3, e4⟩
theorem read_k {v : Value} {d : DataW H} {ps : List MemPlace} (h : DataW.Trod enc Tryz.prog W 0 spare held 3 v d ps) (ha : ∀ cs, v ≠ .agg cs) : ∃ k, v = .int .i64 k := by
  obtain ⟨m, h⟩ := h
  have hcs : v.cells.toList = [v] := by
    cases v <;> first | rfl | exact absurd rfl (ha _)
  rw [hcs] at h
  obtain ⟨k, e, _⟩ := read_int h
  exact ⟨k, by simpa using e⟩
end
end Go.Te
