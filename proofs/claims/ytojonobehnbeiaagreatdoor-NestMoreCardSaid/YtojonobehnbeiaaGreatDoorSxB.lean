/- The operations that only compute or read: what each yields on symbolic values, and that the model does so. -/
import Derived.Test.YtojonobehnbeiaaGreatDoorSxA
import Derived.Laws.StructEq
import Derived.Lib.Strings
namespace Go.Sx
open Go Go.RowKit
def inK : IntKind → Int → Prop
  | .i8, n => -128 ≤ n ∧ n ≤ 127
  | .i16, n => -32768 ≤ n ∧ n ≤ 32767
  | .i32, n => -2147483648 ≤ n ∧ n ≤ 2147483647
  | .i64, n => -9223372036854775808 ≤ n ∧ n ≤ 9223372036854775807
  | .u8, n => 0 ≤ n ∧ n ≤ 255
  | .u16, n => 0 ≤ n ∧ n ≤ 65535
  | .u32, n => 0 ≤ n ∧ n ≤ 4294967295
  | .u64, n => 0 ≤ n ∧ n ≤ 18446744073709551615
theorem wrap_in {k : IntKind} {n : Int} (h : inK k n) : k.wrap n = n := by
  cases k <;> simp only [inK] at h <;> simp only [IntKind.wrap, IntKind.bits, IntKind.signed] <;> simp <;> omega
def ltB : Int → Int → Bool
  | .ofNat m, .ofNat n => Nat.blt m n
  | .ofNat _, .negSucc _ => false
  | .negSucc _, .ofNat _ => true
  | .negSucc m, .negSucc n => Nat.blt n m
theorem blt_iff (m n : Nat) : Nat.blt m n = true ↔ m < n := ⟨fun h => Nat.le_of_ble_eq_true h, fun h => Nat.ble_eq_true_of_le h⟩
theorem ltB_iff (a b : Int) : ltB a b = true ↔ a < b := by
  cases a <;> cases b <;> simp only [ltB, blt_iff, Int.ofNat_eq_natCast, Bool.false_eq_true, true_iff, false_iff] <;> omega
theorem ltB_eq (a b : Int) : ltB a b = decide (a < b) := by
  rw [Bool.eq_iff_iff, ltB_iff, decide_eq_true_eq]
def leB (a b : Int) : Bool := !ltB b a
theorem leB_iff (a b : Int) : leB a b = true ↔ a ≤ b := by
  have := ltB_iff b a
  unfold leB
  cases h : ltB b a <;> rw [h] at this <;> simp at this ⊢ <;> omega
theorem leB_eq (a b : Int) : leB a b = decide (a ≤ b) := by
  rw [Bool.eq_iff_iff, leB_iff, decide_eq_true_eq]
def inKb : IntKind → Int → Bool
  | .i8, n => leB (-128) n && leB n 127
  | .i16, n => leB (-32768) n && leB n 32767
  | .i32, n => leB (-2147483648) n && leB n 2147483647
  | .i64, n => leB (-9223372036854775808) n && leB n 9223372036854775807
  | .u8, n => leB 0 n && leB n 255
  | .u16, n => leB 0 n && leB n 65535
  | .u32, n => leB 0 n && leB n 4294967295
  | .u64, n => leB 0 n && leB n 18446744073709551615
theorem inKb_iff (k : IntKind) (n : Int) : inKb k n = true ↔ inK k n := by
  cases k <;> simp only [inKb, inK, Bool.and_eq_true, leB_iff]
class DB (p : Prop) where
  db : Bool
  iff : db = true ↔ p
instance {k : IntKind} {n : Int} : DB (inK k n) := ⟨inKb k n, inKb_iff k n⟩
instance {a b : Int} : DB (a ≤ b) := ⟨leB a b, leB_iff a b⟩
instance {a b : Int} : DB (a < b) := ⟨ltB a b, ltB_iff a b⟩
instance {a b : Nat} : DB (a ≤ b) := ⟨Nat.ble a b, ⟨Nat.le_of_ble_eq_true, Nat.ble_eq_true_of_le⟩⟩
instance {a b : Nat} : DB (a = b) := ⟨Nat.beq a b, ⟨Nat.eq_of_beq_eq_true, fun h => h ▸ Nat.beq_refl a⟩⟩
instance {a b : Nat} : DB (a < b) := ⟨Nat.blt a b, blt_iff a b⟩
instance {p q : Prop} [DB p] [DB q] : DB (p ∧ q) := ⟨DB.db p && DB.db q, by rw [Bool.and_eq_true, DB.iff, DB.iff]⟩
instance {a b : Int} : DB (a ≠ b) := ⟨!(a == b), by simp⟩
instance {a b : Int} : DB (a = b) := ⟨a == b, by simp⟩
instance {a : Bool} : DB (a = false) := ⟨!a, by simp⟩
@[reducible] def Cond.d (p : Prop) [DB p] : Cond := .b (DB.db p)
theorem cd {p : Prop} [DB p] (h : (Cond.d p).holds) : p := DB.iff.1 h
def guardB (x : Bool) (k : Prop) : Prop :=
  match x with
  | true => k
  | false => False
theorem guardB_iff (x : Bool) (k : Prop) : guardB x k ↔ x = true ∧ k := by cases x <;> simp [guardB]
theorem guardB.mk {x : Bool} {k : Prop} (h : x = true) (hk : k) : guardB x k := (guardB_iff x k).2 ⟨h, hk⟩
def allP : List Cond → Prop → Prop
  | [], k => k
  | .b x :: ps, k => guardB x (allP ps k)
  | .p x :: ps, k => x ∧ allP ps k
theorem allP_iff (ps : List Cond) (k : Prop) : allP ps k ↔ (∀ p ∈ ps, p.holds) ∧ k := by
  induction ps with
  | nil => exact ⟨fun h => ⟨fun _ hp => (by cases hp), h⟩, fun h => h.2⟩
  | cons p ps ih =>
    have e : allP (p :: ps) k ↔ p.holds ∧ allP ps k := by
      cases p with
      | b x => exact guardB_iff _ _
      | p x => exact Iff.rfl
    rw [e]
    constructor
    · rintro ⟨h, hk⟩
      have := ih.1 hk
      refine ⟨fun q hq => ?_, this.2⟩
      rcases List.mem_cons.1 hq with e | e
      · rw [e]; exact h
      · exact this.1 q e
    · rintro ⟨h, hk⟩
      exact ⟨h p (List.mem_cons_self ..), ih.2 ⟨fun q hq => h q (List.mem_cons_of_mem _ hq), hk⟩⟩
def shapeOf (P : Program) (t : TypeId) : Option (Option Nat) :=
  match P.underlying t with
  | none => none
  | some (.struct _) | some (.array _ _) => (P.info? t).map fun i => some i.size
  | some _ => some none
theorem shape_one {P : Program} {t : TypeId} (h : shapeOf P t = some none) (w : World) : (isAgg t).run P w = .ok false w := by
  unfold shapeOf at h
  cases hu : P.underlying t with
  | none => rw [hu] at h; cases h
  | some d =>
    rw [hu] at h
    unfold isAgg
    simp only [Sem.run_bind, run_underlying hu, Result.andThen_ok]
    cases d <;> first | rfl | (simp at h)
theorem shape_agg {P : Program} {t : TypeId} {n : Nat} (h : shapeOf P t = some (some n)) (w : World) :
    (isAgg t).run P w = .ok true w ∧ (sizeOf t).run P w = .ok n w := by
  unfold shapeOf at h
  cases hu : P.underlying t with
  | none => rw [hu] at h; cases h
  | some d =>
    rw [hu] at h
    unfold isAgg
    simp only [Sem.run_bind, run_underlying hu, Result.andThen_ok]
    cases d <;> simp at h
    all_goals
      obtain ⟨i, hi, e⟩ := h
      refine ⟨rfl, ?_⟩
      rw [run_sizeOf w hi]
      simp [Program.cellsOf, hi, e]
theorem run_loadVar_one {P : Program} {t : TypeId} {w : World} {a : Addr} {v : Value} (h : shapeOf P t = some none) (hc : w.cell? a = some v) :
    (loadVar t a).run P w = .ok v w := by
  unfold loadVar
  simp only [Sem.run_bind, shape_one h, Result.andThen_ok, Bool.false_eq_true, if_false]
  simp [hc]
theorem run_loadVar_agg {P : Program} {t : TypeId} {n : Nat} {w : World} {a : Addr} (f : Nat → Value) (h : shapeOf P t = some (some n))
    (hc : ∀ j, j < n → w.cell? (a.add j) = some (f j)) :
    (loadVar t a).run P w = .ok (.agg ((List.range n).map f).toArray) w := by
  unfold loadVar
  simp only [Sem.run_bind, (shape_agg h w).1, Result.andThen_ok, if_true, (shape_agg h w).2, run_loadCells w a n f hc, Sem.run_pure]
theorem getD_range (n : Nat) (f : Nat → Value) (i : Nat) (h : i < n) : (((List.range n).map f).toArray).getD i undef = f i := by
  simp [Array.getD_eq_getD_getElem?, h]
def loadAV (bl : Nat → OB) (sh : Option Nat) : AV → Option AV
  | .np k off =>
    match bl k with
    | .box _ n cells =>
      match sh with
      | none => if off < n then some (cells off) else none
      | some m => if off + m ≤ n then some (.agg m fun i => cells (off + i)) else none
    | _ => none
  | .ap k i j =>
    match bl k with
    | .arr _ sz _ els =>
      match sh with
      | none => if j < sz then some (els i j) else none
      | some m => if j + m ≤ sz then some (.agg m fun x => els i (j + x)) else none
    | _ => none
  | .xq n cells off =>
    match sh with
    | none => if off < n then some (cells off) else none
    | some m => if off + m ≤ n then some (.agg m fun i => cells (off + i)) else none
  | _ => none
section
variable {P : Program} {E : Env} {nb : Nat} {bl : Nat → OB} {S : Nat → Prop} {ρ : Nat → Own} {w : World}
theorem Mem.at (h : Mem E nb bl S ρ w) (k : Nat) : ρ k = .none ∨ BOK w S ρ (bl k) (ρ k) := by
  by_cases hk : k < nb
  · exact .inr (h.ok k hk)
  · exact .inl (h.hi k (by omega))
theorem cell_row {g i : Nat} {c : Array Value} {t : TypeId} {fr : Nat × Nat} (h : w.heap[g]? = some (.cells c t fr)) (hi : i < c.size) :
    w.cell? ⟨g, i, none⟩ = some (c.getD i undef) := by
  simp [World.cell?, h, Array.getD_eq_getD_getElem?, hi]
theorem load_cells {x r : AV} {v : Value} {sh : Option Nat} (hM : Mem E nb bl S ρ w) (hx : Rel w S ρ x v) (h : loadAV bl sh x = some r)  :
    ∃ a, v = .pointer (some a) ∧
      match sh with
      | none => ∃ u, w.cell? a = some u ∧ Rel w S ρ r u ∧ u.oneCell' = true
      | some m => ∃ f : Nat → Value, ∃ cs, r = .agg m cs ∧ ∀ i, i < m → w.cell? (a.add i) = some (f i) ∧ Rel w S ρ (cs i) (f i) := by
  cases hx with
  | np g hk =>
    rename_i k off
    have hb := (hM.at k).resolve_left (by rw [hk]; simp)
    rw [hk] at hb
    simp only [loadAV] at h
    cases hB : bl k with
    | box t n cells =>
      rw [hB] at hb h
      obtain ⟨c, h1, h2, h3⟩ := hb
      refine ⟨_, rfl, ?_⟩
      cases sh with
      | none =>
        simp only at h ⊢
        split at h
        · rename_i hlt
          cases h
          exact ⟨_, cell_row h1 (by omega), (h3 off hlt).1, (h3 off hlt).2⟩
        · cases h
      | some m =>
        simp only at h ⊢
        split at h
        · rename_i hlt
          cases h
          refine ⟨fun i => c.getD (off + i) undef, _, rfl, fun i hi => ⟨?_, (h3 _ (by omega)).1⟩⟩
          rw [add_lit]
          exact cell_row h1 (by omega)
        · cases h
    | _ => rw [hB] at hb; exact hb.elim
  | ap g base cap sz L hk hi hc =>
    rename_i k i j
    have hb := (hM.at k).resolve_left (by rw [hk]; simp)
    rw [hk] at hb
    simp only [loadAV] at h
    cases hB : bl k with
    | arr t sz' len els =>
      rw [hB] at hb h
      obtain ⟨e1, e2, h1, h2, c, h3, h4, h5⟩ := hb
      subst e1; subst e2
      have hbound : ∀ j', j' < sz → (base + i) * sz + j' < c.size := fun j' hj' => by
        have e : (base + i) * sz + sz ≤ (base + cap) * sz := by
          rw [← Nat.succ_mul]; exact Nat.mul_le_mul_right _ (by omega)
        omega
      refine ⟨_, rfl, ?_⟩
      cases sh with
      | none =>
        simp only at h ⊢
        split at h
        · rename_i hlt
          cases h
          exact ⟨_, cell_row h3 (hbound j hlt), (h5 i j hi hlt).1.mono (fun b hb => ⟨hb, rfl⟩) (OwnLe.zero _), (h5 i j hi hlt).2⟩
        · cases h
      | some m =>
        simp only at h ⊢
        split at h
        · rename_i hlt
          cases h
          refine ⟨fun x => c.getD ((base + i) * sz + (j + x)) undef, _, rfl, fun x hx => ⟨?_, (h5 i (j + x) hi (by omega)).1.mono (fun b hb => ⟨hb, rfl⟩) (OwnLe.zero _)⟩⟩
          rw [add_lit, Nat.add_assoc]
          exact cell_row h3 (hbound _ (by omega))
        · cases h
    | _ => rw [hB] at hb; exact hb.elim
  | xq A cvs hc hr =>
    rename_i n cells off
    refine ⟨_, rfl, ?_⟩
    simp only [loadAV] at h
    cases sh with
    | none =>
      simp only at h ⊢
      split at h
      · rename_i hlt
        cases h
        exact ⟨_, (hc off hlt).2.1, (hr off hlt).mono (fun b hb => ⟨hb, rfl⟩) (OwnLe.zero _), (hc off hlt).2.2⟩
      · cases h
    | some m =>
      simp only at h ⊢
      split at h
      · rename_i hlt
        cases h
        refine ⟨fun i => cvs (off + i), _, rfl, fun i hi => ⟨?_, (hr (off + i) (by omega)).mono (fun b hb => ⟨hb, rfl⟩) (OwnLe.zero _)⟩⟩
        rw [add_of_add]
        exact (hc (off + i) (by omega)).2.1
      · cases h
  | dnp hd hsh =>
    rename_i k off
    have hb := (hM.at k).resolve_left (by rw [hd]; simp)
    rw [hd] at hb
    simp only [loadAV] at h
    cases hB : bl k <;> rw [hB] at hb h <;> first | exact hb.elim | cases h
  | dap hd hsh =>
    rename_i k i j
    have hb := (hM.at k).resolve_left (by rw [hd]; simp)
    rw [hd] at hb
    simp only [loadAV] at h
    cases hB : bl k <;> rw [hB] at hb h <;> first | exact hb.elim | cases h
  | apr g cap sz L sub hk hi hc =>
    rename_i k i j
    have hb := (hM.at k).resolve_left (by rw [hk]; simp)
    rw [hk] at hb
    simp only [loadAV] at h
    cases hB : bl k <;> rw [hB] at hb h <;> first | exact hb.elim | cases h
  | _ => simp [loadAV] at h
def loadRows (bl : Nat → OB) (sh : Option Nat) : AV → Option (List Cond × AV)
  | .ap k i j =>
    match bl k with
    | .rows _ sz _ col _ _ els out =>
      match sh with
      | none =>
        match Nat.blt j sz, Nat.beq j col, out with
        | true, false, _ => some ([], els i j)
        | true, true, some (i0, y) => some ([.d (i = i0)], y)
        | _, _, _ => none
      | some m =>
        match Nat.ble (j + m) sz, out with
        | true, some (i0, y) => some ([.d (i = i0)], .agg m fun x => bif Nat.beq (j + x) col then y else els i (j + x))
        | _, _ => none
    | _ => none
  | _ => none
theorem rows_cells {k i j : Nat} {v : Value} {t : TypeId} {sz len col : Nat} {te : TypeId} {ssz : Nat} {els : Nat → Nat → AV} {out : Option (Nat × AV)} (hM : Mem E nb bl S ρ w)
    (hB : bl k = .rows t sz len col te ssz els out) (hx : Rel w S ρ (.ap k i j) v) :
    ∃ g c, v = .pointer (some ⟨g, i * sz + j, none⟩) ∧ w.heap[g]? = some (.cells c t (0, 0)) ∧ i < len ∧ i * sz + sz ≤ c.size ∧
      (∃ o, (c.getD (i * sz + col) undef).oneCell' = true ∧ ColOK w S ρ te ssz (els i col) out i (c.getD (i * sz + col) undef) o) ∧
      ∀ j, j < sz → j ≠ col → Rel w S rho0 (els i j) (c.getD (i * sz + j) undef) ∧ (c.getD (i * sz + j) undef).oneCell' = true := by
  cases hx with
  | ap g base cap sz' L hk hi hc =>
    have hb := (hM.at k).resolve_left (by rw [hk]; simp)
    rw [hk, hB] at hb
    exact hb.elim
  | dap hd hsh =>
    have hb := (hM.at k).resolve_left (by rw [hd]; simp)
    rw [hd, hB] at hb
    exact hb.elim
  | apr g cap sz' L sub hk hi hc =>
    have hb := (hM.at k).resolve_left (by rw [hk]; simp)
    rw [hk, hB] at hb
    obtain ⟨rfl, rfl, h1, h2, h3, h4, h5, h6, c, h7, h8, h9⟩ := hb
    obtain ⟨a1, a2, a3⟩ := h9 i hi
    have hle : i * sz' + sz' ≤ c.size := by
      rw [← h8, ← Nat.succ_mul]; exact Nat.mul_le_mul_right _ (by omega)
    exact ⟨g, c, rfl, h7, hi, hle, ⟨_, a1, a2⟩, a3⟩
theorem loadRows_sound {t : TypeId} {x r : AV} {v : Value} {sh : Option Nat} {ps : List Cond} (hM : Mem E nb bl S ρ w) (hs : shapeOf P t = some sh) (hx : Rel w S ρ x v)
    (h : loadRows bl sh x = some (ps, r)) (hp : ∀ p ∈ ps, p.holds) :
    ∃ u, (Instr.loadAt t v).run P w = .ok u w ∧ Rel w S ρ r u := by
  unfold loadRows at h
  split at h
  · rename_i k i j
    split at h
    · rename_i t' sz len col te ssz els out hB
      obtain ⟨g, c, rfl, h1, hi, h2, ⟨o, h3, h4⟩, h5⟩ := rows_cells hM hB hx
      unfold Instr.loadAt
      simp only [Instr.sureAddr, Sem.run_bind, Sem.run_pure, Result.andThen_ok]
      split at h
      · split at h
        · rename_i hlt hne
          cases h
          have hlt := (blt_iff _ _).1 hlt
          have hne := Nat.ne_of_beq_eq_false hne
          exact ⟨_, run_loadVar_one hs (cell_row h1 (by omega)), (h5 j hlt hne).1.mono (fun b hb => ⟨hb, rfl⟩) (OwnLe.zero _)⟩
        · rename_i i0 y hlt heq
          cases h
          have hlt := (blt_iff _ _).1 hlt
          obtain rfl := Nat.eq_of_beq_eq_true heq
          have hi0 := cd (hp _ (List.mem_cons_self ..))
          subst hi0
          exact ⟨_, run_loadVar_one hs (cell_row h1 (by omega)), (h4.1 rfl).2⟩
        · cases h
      · rename_i m
        split at h
        · rename_i i0 y hle
          cases h
          have hle := Nat.le_of_ble_eq_true hle
          have hi0 := cd (hp _ (List.mem_cons_self ..))
          subst hi0
          refine ⟨_, run_loadVar_agg (fun x => c.getD (i * sz + (j + x)) undef) hs fun x hx => by rw [add_lit, Nat.add_assoc]; exact cell_row h1 (by omega), .agg _ (by simp) fun x hx => ?_⟩
          rw [getD_range _ _ _ hx]
          cases hb : Nat.beq (j + x) col with
          | true =>
            rw [Nat.eq_of_beq_eq_true hb]
            exact (h4.1 rfl).2
          | false => exact (h5 (j + x) (by omega) (Nat.ne_of_beq_eq_false hb)).1.mono (fun b hb => ⟨hb, rfl⟩) (OwnLe.zero _)
        · cases h
    · cases h
  · cases h
theorem load_sound {t : TypeId} {x r : AV} {v : Value} {sh : Option Nat} (hM : Mem E nb bl S ρ w) (hs : shapeOf P t = some sh) (hx : Rel w S ρ x v)
    (h : loadAV bl sh x = some r) :
    ∃ u, (Instr.loadAt t v).run P w = .ok u w ∧ Rel w S ρ r u := by
  obtain ⟨a, rfl, hh⟩ := load_cells hM hx h
  unfold Instr.loadAt
  simp only [Instr.sureAddr, Sem.run_bind, Sem.run_pure, Result.andThen_ok]
  cases sh with
  | none =>
    obtain ⟨u, h1, h2, _⟩ := hh
    exact ⟨u, run_loadVar_one hs h1, h2⟩
  | some m =>
    obtain ⟨f, cs, rfl, h1⟩ := hh
    exact ⟨_, run_loadVar_agg f hs fun j hj => (h1 j hj).1, .agg _ (by simp) fun i hi => by rw [getD_range _ _ _ hi]; exact (h1 i hi).2⟩
end
end Go.Sx
