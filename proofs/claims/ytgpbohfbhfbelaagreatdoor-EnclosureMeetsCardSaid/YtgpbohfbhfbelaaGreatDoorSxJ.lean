/- Slice literals, make, append. -/
import Derived.Test.YtgpbohfbhfbelaaGreatDoorSxI
import Derived.Deep.AppendSrc
import Derived.Deep.Upon
set_option linter.unusedSimpArgs false
set_option linter.unusedVariables false
namespace Go.Sx
open Go Go.RowKit
def rR (sz : Nat) : List AV → Option (List (Nat → AV))
 | [] => some []
 | x :: xs =>
  match vW x, rR sz xs with
  | some (m, cs), some r => if m = sz ∧ xm (fun i => !(cs i).hasOwn) m then some (cs :: r) else none
  | _, _ => none
def rowAt (rows : List (Nat → AV)) (i j : Nat) : AV := ((rows[i]?).getD (rows.headD fun _ => .junk)) j
def ZL (P : Program) (σ : zo) (t : TypeId) (len : Nat) (idx : List Nat) (xs : List AV) : Option (zo × AV) :=
 match P.underlying t with
 | some (.slice e) =>
  match P.info? e with
  | some i =>
   if (idx == List.range len) = true ∧ len * i.size ≤ 16777216 ∧ 0 < i.size ∧ i.zero.isSome then
    match rR i.size xs with
    | some rows => some (σ, .xl true i.size len (rowAt rows))
    | none => none
   else none
  | none => none
 | _ => none
def Gd : AV → Bool
 | .np _ _ => true
 | _ => false
def w5 : Operand → Bool
 | .const (.int _ (.ofNat 0)) => true
 | _ => false
def oP : Operand → AV
 | .const v => .v v
 | _ => .junk
def ut (ys : List Operand) : Bool := Nat.ble 2 ys.length && ys.all w5
def VG (P : Program) (σ : zo) (t : TypeId) (len : Nat) (idx : List Nat) (ys : List Operand) (xs : List AV) : Option (zo × AV) :=
 match P.underlying t with
 | some (.slice e) =>
  match P.info? e with
  | some i =>
   if (idx == List.range len) = true ∧ len ≤ 16777216 ∧ i.size = 1 ∧ i.zero.isSome ∧ xs.all Gd = true ∧ 0 < len ∧ xs.any AV.hasOwn = true then
    some (σ.add (.box e len fun j => xs.getD j .junk), .ps σ.nb len)
   else
    if (idx == List.range len) = true ∧ len ≤ 16777216 ∧ i.size = 1 ∧ i.zero.isSome ∧ ut ys = true ∧ 0 < len then
     some (σ.add (.arr e 1 len fun a _ => oP (ys.getD a (.const undef))), .ns σ.nb 0 len)
    else none
  | none => none
 | _ => none
theorem YU {P : Program} {σ σ' : zo} {t : TypeId} {n : Nat} {idx : List Nat} {xs : List AV} {r : AV} (h : ZL P σ t n idx xs = some (σ', r)) :
  σ' = σ ∧ ∀ σ1, ZL P σ1 t n idx xs = some (σ1, r) := by
 unfold ZL at h ⊢
 repeat' split at h
 all_goals simp_all
def yV (P : Program) (σ : zo) (t : TypeId) (l c : AV) : Option (List zn × zo × AV) :=
 match P.underlying t, l, c with
 | some (.slice e), .v (.int .i64 n), .v (.int .i64 m) =>
  match P.info? e with
  | some i =>
   match i.zero with
   | some z =>
    if 0 < i.size ∧ z.cells.size = i.size ∧ 1 ≤ i.bytes ∧ z.cells.toList.all (·.oneCell') then
     some ([.d (0 ≤ n ∧ n ≤ m ∧ i.bytes * m ≤ 140737488355328)], σ.add (.arr e i.size n.toNat fun _ j => ZD z j), .ns σ.nb 0 n.toNat)
    else none
   | none => none
  | none => none
 | _, _, _ => none
def ID (x : AV) : Nat → Bool
 | 0 => false
 | _ + 1 =>
  match x with
  | .xl false _ _ _ => true
  | _ => false
def Z0 (P : Program) (σ : zo) (t : TypeId) (s x : AV) : Option (List zn × zo × AV) :=
 match P.underlying t with
 | some (.slice e) =>
  match P.info? e with
  | some i =>
   match i.zero, t6 σ.bl i.size x with
   | some z, some (m, src) =>
    if 0 < i.size ∧ z.cells.size = i.size ∧ 1 ≤ i.bytes then
     match s with
     | .v (.slice none 0 0) => some ([.d (m * i.bytes ≤ 140737488355328)], σ.add (.arr e i.size m src), .ns σ.nb 0 m)
     | .xl true sz n els => if sz = i.size then match ID x n with
      | true => some ([.d ((n + m) * i.bytes ≤ 140737488355328)], σ, .xl false i.size (n + m) fun a b => if a < n then els a b else src (a - n) b)
      | false => some ([.b (Nat.beq n 0 || Nat.blt 0 m), .d ((n + m) * i.bytes ≤ 140737488355328)], σ.add (.arr e i.size (n + m) fun a b => if a < n then els a b else src (a - n) b), .ns σ.nb 0 (n + m)) else none
     | .ns k 0 n =>
      match σ.bl k with
      | .arr e' sz _ els =>
       if sz = i.size ∧ e' = e ∧ k < σ.nb then
        some ([.d ((n + m) * i.bytes ≤ 140737488355328)],
         { σ with nb := σ.nb + 1, bl := upd (upd σ.bl k .dead) σ.nb (.arr e i.size (n + m) fun a b => if a < n then els a b else src (a - n) b) }, .ns σ.nb 0 (n + m))
       else none
      | _ => none
     | _ => none
    else none
   | _, _ => none
  | none => none
 | _ => none
section
variable {P : Program} {E : Env} {nb : Nat} {bl : Nat → OB} {S : Nat → Prop} {ρ : Nat → Own} {w : World}
theorem rX {sz : Nat} {xs : List AV} {vs : List Value} {rows : List (Nat → AV)} (hM : Mem E nb bl S ρ w) (hx : ZI w S ρ xs vs) (h : rR sz xs = some rows) :
  vs.length = rows.length ∧ ∀ i v, vs[i]? = some v → v.cells.size = sz ∧ ∀ j, j < sz → zF w S yi (rowAt rows i j) (v.cells.getD j undef) ∧ (v.cells.getD j undef).oneCell' = true := by
 induction xs generalizing vs rows with
 | nil =>
  cases h
  cases vs with
  | nil => simp
  | cons => exact hx.elim
 | cons x xs ih =>
  cases vs with
  | nil => exact hx.elim
  | cons v vs =>
   simp only [rR] at h
   split at h
   ·rename_i m cs r hc hr
    split at h
    ·rename_i hh
     cases h
     obtain ⟨h1, h2⟩ := xQ hx.1 hc
     obtain ⟨i1, i2⟩ := ih hx.2 hr
     refine ⟨by simp [i1], fun i v' hv => ?_⟩
     cases i with
     | zero =>
      simp only [List.getElem?_cons_zero, Option.some.injEq] at hv
      subst hv
      refine ⟨h1.trans hh.1, fun j hj => ?_⟩
      have hj' : j < m := by omega
      have hf : (cs j).hasOwn = false := by simpa using ZK hh.2 j hj'
      exact ⟨(h2 j hj').1.free hf, (h2 j hj').2⟩
     | succ i =>
      simp only [List.getElem?_cons_succ] at hv
      have hi' : i < r.length := by rw [← i1]; exact (List.getElem?_eq_some_iff.1 hv).1
      have e1 : ∀ j, rowAt (cs :: r) (i + 1) j = rowAt r i j := fun j => by simp [rowAt, List.getElem?_eq_getElem hi']
      grind
    ·cases h
   ·cases h
theorem xb {σ σ' : zo} {t : TypeId} {len : Nat} {parts : Array (Nat × Operand)} {xs : List AV} {r : AV} {a : Act} {o : Oper} {e : Operand → Value}
  (ho : o.op = .buildSlice t len parts) (hM : Mem E σ.nb σ.bl S ρ w) (hF : Yq w S ρ σ.n σ.tm a) (hD : wi E.w0.heap.size w S a.defers)
  (hx : ZI w S ρ xs (parts.toList.map fun p => e p.2)) (h : ZL P σ t len (parts.toList.map (·.1)) xs = some (σ', r)) : Eff P E e o a w σ' r := by
 unfold ZL at h
 split at h
 ·rename_i el hu
  split at h
  ·rename_i i hi
   split at h
   ·rename_i hc
    obtain ⟨c1, c2, c3, c4⟩ := hc
    split at h
    ·rename_i rows hr
     cases h
     obtain ⟨z, hz⟩ := Option.isSome_iff_exists.1 c4
     obtain ⟨vs, hvs⟩ : ∃ vs, vs = parts.toList.map fun p => e p.2 := ⟨_, rfl⟩
     rw [← hvs] at hx
     obtain ⟨r1, r2⟩ := rX hM hx hr
     have hidx : parts.toList.map (·.1) = List.range len := eq_of_beq c1
     have hlen : vs.length = len := by
      have := congrArg List.length hidx
      grind
     have hparts : (parts.map fun (x : Nat × Operand) => (x.1, e x.2)).toList = (vs.zipIdx 0).map fun x => (x.2, x.1) := by
      apply List.ext_getElem?
      intro j
      simp only [Array.toList_map, List.getElem?_map, List.getElem?_zipIdx, hvs, Nat.zero_add, Option.map_map]
      have hj : (parts.toList.map (·.1))[j]? = (List.range len)[j]? := by rw [hidx]
      grind
     obtain ⟨z0, hz0⟩ : ∃ z0 : Array Value, z0 = if len * i.size = 0 then #[] else z.cells := ⟨_, rfl⟩
     have hcs : P.cellsOf el = i.size := by simp [Program.cellsOf, hi]
     obtain ⟨rr, f1, f2, f3⟩ := Great.fill_dense c3 vs 0 ((Array.range (len * i.size)).map (fun m => z0[m % z0.size]!)) (fun v hv => by
      obtain ⟨j, hj, rfl⟩ := List.getElem_of_mem hv
      exact (r2 j _ (List.getElem?_eq_getElem hj)).1) (by simp [hlen])
     have f2' : rr.size = len * i.size := by rw [f2]; simp
     have hrun : (execOp e o).run P w = .ok (.value (.slice (some ⟨w.heap.size, 0, none⟩) len len)) (w.alloc (.cells rr el)) := by
      simp only [execOp, ho, Instr.buildSlice, Sem.run_bind, run_underlying hu, Result.andThen_ok, run_sizeOf w hi]
      rw [if_neg (by rw [hcs]; omega)]
      rw [hparts, hcs]
      by_cases h0 : len * i.size = 0
      ·rw [if_pos h0]
       rw [hz0, if_pos h0] at f1
       simp only [Sem.run_bind, Sem.run_pure, Result.andThen_ok, f1, newRow]
       rfl
      ·rw [if_neg h0]
       rw [hz0, if_neg h0] at f1
       simp only [Sem.run_bind, WH hi hz, Sem.run_pure, Result.andThen_ok, f1, newRow]
       rfl
     have hlenb : len ≤ maxLen := by
      have : len ≤ len * i.size := Nat.le_mul_of_pos_right _ c3
      simp only [maxLen]; omega
     obtain ⟨g1, g3⟩ := hM.grow (w' := w.alloc (.cells rr el)) ⟨(Below.refl _ _).alloc (Nat.le_refl _) _, Nat.le_refl _⟩
     refine ⟨_, _, _, _, _, hrun, .inl rfl, g1, hF.mono g3 (zf.refl _), hD.mono g3, ?_⟩
     refine .xl _ _ (fun a b => rr.getD (a * i.size + b) undef) (Nat.le_refl _) hlenb (fun _ => rfl) (fun a b ha hb => ?_) fun a b ha hb => ?_
     all_goals
      have hv : vs[a]? = some (vs[a]'(by omega)) := List.getElem?_eq_getElem (by omega)
      obtain ⟨q1, q2⟩ := r2 a _ hv
      have hlt : a * i.size + b < len * i.size := by
       have : a * i.size + i.size ≤ len * i.size := by
        rw [← Nat.succ_mul]; exact Nat.mul_le_mul_right _ ha
       omega
      have hq : rr.getD (a * i.size + b) undef = (vs[a]'(by omega)).cells.getD b undef := by
       rw [Array.getD_eq_getD_getElem?, f3, if_pos ⟨by omega, by rw [Nat.zero_add, hlen]; exact hlt⟩]
       have d1 : (a * i.size + b) / i.size = a := by
        rw [Nat.mul_comm, Nat.mul_add_div c3, Nat.div_eq_of_lt hb, Nat.add_zero]
       have d2 : (a * i.size + b) % i.size = b := by
        rw [Nat.mul_comm, Nat.mul_add_mod, Nat.mod_eq_of_lt hb]
       rw [d1, d2, Nat.sub_zero, hv, Option.bind_some, Array.getD_eq_getD_getElem?]
      rw [hq]
     ·refine ⟨_, rfl, .inr ⟨Nat.le_refl _, by simp⟩, ?_, (q2 b hb).2⟩
      rw [add_lit, Nat.zero_add, yk (heap_alloc_new w _) (by rw [f2']; exact hlt), hq]
     ·exact (q2 b hb).1.mono (fun b hb => ⟨.inl hb, yy w _ (hM.sb b hb)⟩) (zf.refl _)
    ·cases h
   ·cases h
  ·cases h
 ·cases h
theorem rK {σ : zo} {t : TypeId} {len : Nat} {idx : List Nat} {ys : List Operand} {xs : List AV} (h : ¬ (xs.any AV.hasOwn || ut ys) = true) : VG P σ t len idx ys xs = none := by
 rw [Bool.or_eq_true] at h
 unfold VG
 grind
theorem im {xs : List AV} {vs : List Value} (hx : ZI w S ρ xs vs) (h : xs.all Gd = true) : vs.length = xs.length ∧ ∀ j v, vs[j]? = some v → zF w S ρ (xs.getD j .junk) v ∧ ∃ p, v = .pointer (some p) := by
 induction xs generalizing vs with
 | nil =>
  cases vs with
  | nil => simp
  | cons => exact hx.elim
 | cons x xs ih =>
  cases vs with
  | nil => exact hx.elim
  | cons v vs =>
   simp only [List.all_cons, Bool.and_eq_true] at h
   obtain ⟨i1, i2⟩ := ih hx.2 h.2
   refine ⟨by simp [i1], fun j v' hv => ?_⟩
   cases j with
   | zero =>
    simp only [List.getElem?_cons_zero, Option.some.injEq] at hv
    subst hv
    refine ⟨hx.1, ?_⟩
    have h0 := hx.1
    cases x with
    | np k off => cases h0 with
     | np g hk => exact ⟨_, rfl⟩
     | dnp hd hsh => exact hsh
    | _ => cases h.1
   | succ j =>
    grind
theorem LS {ys : List Operand} {e : Operand → Value} (he : ∀ v, e (.const v) = v) (h : ys.all w5 = true) : ∀ j v, (ys.map e)[j]? = some v → ∃ k, v = .int k 0 ∧ oP (ys.getD j (.const undef)) = .v (.int k 0) := by
 intro j v hv
 rw [List.getElem?_map] at hv
 obtain ⟨y, hy, rfl⟩ := Option.map_eq_some_iff.1 hv
 have h1 := List.all_eq_true.1 h y (List.mem_of_getElem? hy)
 have e1 : ys.getD j (.const undef) = y := by rw [List.getD_eq_getElem?_getD, hy]; rfl
 rw [e1]
 unfold w5 at h1
 split at h1
 ·rename_i k
  exact ⟨k, he _, rfl⟩
 ·cases h1
theorem Oo {el t : TypeId} {i : TypeInfo} {len : Nat} {parts : Array (Nat × Operand)} {vs : List Value} {o : Oper} {e : Operand → Value} (ho : o.op = .buildSlice t len parts) (hu : P.underlying t = some (.slice el)) (hi : P.info? el = some i)
  (c1 : (parts.toList.map (·.1) == List.range len) = true) (c2 : len ≤ 16777216) (c3 : i.size = 1) (c4 : i.zero.isSome = true) (c6 : 0 < len) (hvs : vs = parts.toList.map fun p => e p.2) (hcell : ∀ v ∈ vs, v.cells = #[v]) :
  ∃ rr : Array Value, rr.size = len ∧ vs.length = len ∧ (∀ j v, vs[j]? = some v → rr.getD j undef = v) ∧ (execOp e o).run P w = .ok (.value (.slice (some ⟨w.heap.size, 0, none⟩) len len)) (w.alloc (.cells rr el)) := by
 obtain ⟨z, hz⟩ := Option.isSome_iff_exists.1 c4
 have hidx : parts.toList.map (·.1) = List.range len := eq_of_beq c1
 have hlen : vs.length = len := by
  have := congrArg List.length hidx
  grind
 have hparts : (parts.map fun (x : Nat × Operand) => (x.1, e x.2)).toList = (vs.zipIdx 0).map fun x => (x.2, x.1) := by
  apply List.ext_getElem?
  intro j
  simp only [Array.toList_map, List.getElem?_map, List.getElem?_zipIdx, hvs, Nat.zero_add, Option.map_map]
  have hj : (parts.toList.map (·.1))[j]? = (List.range len)[j]? := by rw [hidx]
  grind
 have hcs : P.cellsOf el = 1 := by simp [Program.cellsOf, hi, c3]
 obtain ⟨rr, f1, f2, f3⟩ := Great.fill_dense (Nat.zero_lt_one) vs 0 ((Array.range (len * 1)).map (fun m => z.cells[m % z.cells.size]!)) (fun v hv => by rw [hcell v hv]; rfl) (by simp [hlen])
 refine ⟨rr, by rw [f2]; simp, hlen, fun j v hv => ?_, ?_⟩
 ·have hj := (List.getElem?_eq_some_iff.1 hv).1
  rw [Array.getD_eq_getD_getElem?, f3, if_pos ⟨by omega, by omega⟩, Nat.div_one, Nat.sub_zero, hv, Option.bind_some, Nat.mod_one, hcell v (List.mem_of_getElem? hv)]
  rfl
 ·simp only [execOp, ho, Instr.buildSlice, Sem.run_bind, run_underlying hu, Result.andThen_ok, run_sizeOf w hi]
  rw [if_neg (by rw [hcs]; omega)]
  rw [hparts, hcs]
  rw [if_neg (by omega)]
  simp only [Sem.run_bind, WH hi hz, Sem.run_pure, Result.andThen_ok, f1, newRow]
  rfl
theorem Tc {σ σ' : zo} {t : TypeId} {len : Nat} {parts : Array (Nat × Operand)} {xs : List AV} {r : AV} {a : Act} {o : Oper} {e : Operand → Value}
  (ho : o.op = .buildSlice t len parts) (hM : Mem E σ.nb σ.bl S ρ w) (hF : Yq w S ρ σ.n σ.tm a) (hD : wi E.w0.heap.size w S a.defers)
  (he : ∀ v, e (.const v) = v) (hx : ZI w S ρ xs (parts.toList.map fun p => e p.2)) (h : VG P σ t len (parts.toList.map (·.1)) (parts.toList.map (·.2)) xs = some (σ', r)) : Eff P E e o a w σ' r := by
 unfold VG at h
 split at h
 ·rename_i el hu
  split at h
  ·rename_i i hi
   obtain ⟨vs, hvs⟩ : ∃ vs, vs = parts.toList.map fun p => e p.2 := ⟨_, rfl⟩
   rw [← hvs] at hx
   split at h
   ·rename_i hc
    obtain ⟨c1, c2, c3, c4, c5, c6, _⟩ := hc
    cases h
    obtain ⟨r1, r2⟩ := im hx c5
    have hcell : ∀ v ∈ vs, v.cells = #[v] ∧ v.oneCell' = true := fun v hv => by
     obtain ⟨j, hj, rfl⟩ := List.getElem_of_mem hv
     obtain ⟨p, e1⟩ := (r2 j _ (List.getElem?_eq_getElem hj)).2
     rw [e1]
     exact ⟨rfl, rfl⟩
    obtain ⟨rr, f2', hlen, f3, hrun⟩ := Oo (w := w) ho hu hi c1 c2 c3 c4 c6 hvs fun v hv => (hcell v hv).1
    have hle : zf ρ (upd ρ σ.nb (.box w.heap.size)) := fun k => by
     by_cases e : k = σ.nb
     ·subst e; exact .inr (.inr (hM.hi _ (Nat.le_refl _)))
     ·rw [zM _ _ e]; exact .inl (rfl)
    obtain ⟨g1, g2, g3⟩ := hM.allocOwn (c := rr) (t := el) (B := .box el len fun j => xs.getD j .junk) (o := .box w.heap.size)
     (fun g' hg' => by cases hg'; rfl) (fun _ _ _ _ _ hh => by cases hh)
     ⟨rr, heap_alloc_new w _, f2', fun j hj => by
      have hv : vs[j]? = some (vs[j]'(by omega)) := List.getElem?_eq_getElem (by omega)
      rw [f3 j _ hv]
      exact ⟨(r2 j _ hv).1.mono (fun b hb => ⟨hb, yy w _ (hM.sb b hb)⟩) hle, (hcell _ (List.mem_of_getElem? hv)).2⟩⟩
    exact ⟨_, _, _, S, _, hrun, .inl rfl, g1, hF.mono g3 g2, hD.mono g3, .ps _ _ (upd_same _ _ _) (Nat.le_refl _)⟩
   ·split at h
    ·rename_i hc
     obtain ⟨c1, c2, c3, c4, c5, c6⟩ := hc
     cases h
     unfold ut at c5
     rw [Bool.and_eq_true] at c5
     have hvs2 : vs = (parts.toList.map (·.2)).map e := by rw [hvs, List.map_map]; rfl
     have r2 : ∀ j v, vs[j]? = some v → ∃ k, v = .int k 0 ∧ oP ((parts.toList.map (·.2)).getD j (.const undef)) = .v (.int k 0) := fun j v hv => LS he c5.2 j v (hvs2 ▸ hv)
     have hcell : ∀ v ∈ vs, v.cells = #[v] := fun v hv => by
      obtain ⟨j, hj, rfl⟩ := List.getElem_of_mem hv
      obtain ⟨k, e1, _⟩ := r2 j _ (List.getElem?_eq_getElem hj)
      rw [e1]
      rfl
     obtain ⟨rr, f2', hlen, f3, hrun⟩ := Oo (w := w) ho hu hi c1 c2 c3 c4 c6 hvs hcell
     obtain ⟨g1, g2, g3⟩ := hM.allocOwn (c := rr) (t := el) (B := .arr el 1 len fun a _ => oP ((parts.toList.map (·.2)).getD a (.const undef))) (o := .arr w.heap.size 0 len 1 len)
      (fun g' hg' => by cases hg'; rfl) (fun _ _ _ _ _ hh => by cases hh; rfl)
      ⟨rfl, rfl, Nat.le_refl _, by simp only [maxLen]; omega, rr, heap_alloc_new w _, by omega, fun i j hi hj => by
       obtain rfl : j = 0 := by omega
       have hv : vs[i]? = some (vs[i]'(by omega)) := List.getElem?_eq_getElem (by omega)
       obtain ⟨k, e1, e2⟩ := r2 i _ hv
       simp only [Nat.zero_add, Nat.mul_one, Nat.add_zero]
       rw [f3 i _ hv, e1, e2]
       exact ⟨.v _, rfl⟩⟩
     refine ⟨_, _, _, S, _, hrun, .inl rfl, g1, hF.mono g3 g2, hD.mono g3, ?_⟩
     have := zF.ns (w := w.alloc (.cells rr el)) (S := S) (ρ := upd ρ σ.nb (.arr w.heap.size 0 len 1 len)) (k := σ.nb) (off := 0) (len := len) w.heap.size 0 len 1 len (upd_same _ _ _) (by omega) (Nat.le_refl _)
     omega
    ·cases h
  ·cases h
 ·cases h
theorem vG {σ σ' : zo} {t : TypeId} {l c : AV} {ol oc : Operand} {r : AV} {a : Act} {o : Oper} {e : Operand → Value} {ps : List zn}
  (ho : o.op = .makeSlice t ol oc) (hM : Mem E σ.nb σ.bl S ρ w) (hF : Yq w S ρ σ.n σ.tm a) (hD : wi E.w0.heap.size w S a.defers)
  (hl : zF w S ρ l (e ol)) (hc : zF w S ρ c (e oc)) (h : yV P σ t l c = some (ps, σ', r)) (hp : ∀ p ∈ ps, p.holds) : Eff P E e o a w σ' r := by
 unfold yV at h
 split at h
 ·rename_i el n m hu
  have e1 := ZW hl
  have e2 := ZW hc
  split at h
  ·rename_i i hi
   split at h
   ·rename_i z hz
    split at h
    ·rename_i hcc
     obtain ⟨c1, c2, c3, c4⟩ := hcc
     cases h
     obtain ⟨p1, p2, p3⟩ := cd (hp _ (List.mem_cons_self ..))
     have hm : m ≤ 140737488355328 := by
      have h1 : (1 : Int) * m ≤ i.bytes * m := Int.mul_le_mul_of_nonneg_right (by omega) (by omega)
      omega
     have hw1 : IntKind.i64.wrap n = n := vx (k := .i64) (by simp only [Y1]; omega)
     have hw2 : IntKind.i64.wrap m = m := vx (k := .i64) (by simp only [Y1]; omega)
     obtain ⟨cs, hcs⟩ : ∃ cs : Array Value, cs = (Array.range (m.toNat * i.size)).map (fun q => z.cells[q % z.cells.size]!) := ⟨_, rfl⟩
     have hsz : cs.size = m.toNat * i.size := by rw [hcs]; simp
     have hw' : (askRoom (m.toNat * i.bytes)).run P w = .ok () w := by
      simp
     have hrun : (execOp e o).run P w = .ok (.value (.slice (some ⟨w.heap.size, 0, none⟩) n.toNat m.toNat)) (w.alloc (.cells cs el)) := by
      have hcel : P.cellsOf el = i.size := by simp [Program.cellsOf, hi]
      simp only [execOp, ho, Instr.makeSlice, Sem.run_bind, run_underlying hu, Result.andThen_ok, e1, e2, asInt, asIntOf, Sem.run_pure, run_typeInfo w hi, hw1, hw2]
      have t1 : (decide (m < 0) || decide ((i.bytes : Int) * m > 2 ^ 48)) = false := by
       grind
      simp only [t1, Bool.false_or]
      rw [if_neg (by simp; omega)]
      simp only [Sem.run_bind, hw', Result.andThen_ok, run_sizeOf w hi, hcel]
      by_cases hn : m.toNat * i.size = 0
      ·rw [if_pos hn]
       have : cs = (Array.range (m.toNat * i.size)).map (fun q => (#[] : Array Value)[q % (#[] : Array Value).size]!) := by
        simp_all
       simp only [Sem.run_pure, Result.andThen_ok, newRow, Sem.run_bind]
       simp_all
      ·rw [if_neg hn]
       simp only [Sem.run_bind, WH hi hz, Result.andThen_ok, Sem.run_pure, newRow]
       simp_all
     have hml : m.toNat ≤ maxLen := by simp only [maxLen]; omega
     obtain ⟨g1, g2, g3⟩ := hM.allocOwn (c := cs) (t := el) (B := .arr el i.size n.toNat fun _ j => ZD z j) (o := .arr w.heap.size 0 m.toNat i.size n.toNat)
      (fun g' hg' => by cases hg'; rfl) (fun _ _ _ _ _ hh => by cases hh; rfl)
      ⟨rfl, rfl, by omega, hml, cs, heap_alloc_new w _, by rw [hsz]; simp, fun x y hx hy => by
       have hlt : x * i.size + y < m.toNat * i.size := by
        have : x * i.size + i.size ≤ m.toNat * i.size := by
         rw [← Nat.succ_mul]; exact Nat.mul_le_mul_right _ (by omega)
        omega
       have hq : cs.getD ((0 + x) * i.size + y) undef = z.cells.getD y undef := by
        rw [Array.getD_eq_getD_getElem?, hcs, Nat.zero_add]
        have d2 : (x * i.size + y) % i.size = y := by
         rw [Nat.mul_comm, Nat.mul_add_mod, Nat.mod_eq_of_lt hy]
        simp_all
       rw [hq]
       refine ⟨.const _, List.all_eq_true.1 c4 _ ?_⟩
       simp_all⟩
     refine ⟨_, _, _, S, _, hrun, .inl rfl, g1, hF.mono g3 g2, hD.mono g3, ?_⟩
     have := zF.ns (w := w.alloc (.cells cs el)) (S := S) (ρ := upd ρ σ.nb (.arr w.heap.size 0 m.toNat i.size n.toNat)) (k := σ.nb) (off := 0) (len := n.toNat) w.heap.size 0 m.toNat i.size n.toNat (upd_same _ _ _) (by omega) (by omega)
     simp_all
    ·cases h
   ·cases h
  ·cases h
 ·cases h
theorem XO {o : Oper} {e : Operand → Value} {os ox : Operand} {t : TypeId} (ho : o.op = .call { callee := .builtin .append, args := #[os, ox], argTypes := #[t, t] }) {v : Value} {w' : World}
  (h : (Builtin.append_ #[t, t] o.type #[e os, e ox]).run P w = .ok v w') : (execOp e o).run P w = .ok (.value v) w' := by
 simp only [execOp, ho, resolve, Sem.run_bind, Sem.run_pure, Result.andThen_ok, invoke, builtin, List.map_toArray, List.map_cons, List.map_nil, h]
def ZB (sz m : Nat) (cv : Nat → Nat → Value) : List Value := (List.range (m * sz)).map fun p => cv (p / sz) (p % sz)
theorem Zf (sz m : Nat) (cv : Nat → Nat → Value) : (ZB sz m cv).length = m * sz := by simp [ZB]
theorem we {i j sz m : Nat} (hi : i < m) (hj : j < sz) : i * sz + j < m * sz := by
 have : i * sz + sz ≤ m * sz := by rw [← Nat.succ_mul]; exact Nat.mul_le_mul_right _ hi
 omega
theorem X2 {sz m : Nat} {cv : Nat → Nat → Value} {i j : Nat} (hi : i < m) (hj : j < sz) : (ZB sz m cv)[i * sz + j]? = some (cv i j) := by
 have hsz : 0 < sz := by omega
 unfold ZB
 rw [List.getElem?_map, List.getElem?_range (we hi hj), Option.map_some]
 have d1 : (i * sz + j) / sz = i := by rw [Nat.mul_comm, Nat.mul_add_div hsz, Nat.div_eq_of_lt hj, Nat.add_zero]
 have d2 : (i * sz + j) % sz = j := by rw [Nat.mul_comm, Nat.mul_add_mod, Nat.mod_eq_of_lt hj]
 rw [d1, d2]
theorem x7 {sz m : Nat} {cv : Nat → Nat → Value} {A : Addr} (hsz : 0 < sz)
  (h : ∀ i j, i < m → j < sz → w.cell? (A.add (i * sz + j)) = some (cv i j) ∧ (cv i j).oneCell' = true) :
  (∀ p u, (ZB sz m cv)[p]? = some u → w.cell? (A.add p) = some u) ∧ ∀ u ∈ ZB sz m cv, u.oneCell' = true := by
 have key : ∀ p, p < m * sz → p / sz < m ∧ p % sz < sz ∧ p / sz * sz + p % sz = p := fun p hp =>
  ⟨Nat.div_lt_of_lt_mul (by rw [Nat.mul_comm]; exact hp), Nat.mod_lt _ hsz, by rw [Nat.mul_comm]; exact Nat.div_add_mod p sz⟩
 constructor
 ·intro p u hu
  have hp : p < m * sz := by
   have := (List.getElem?_eq_some_iff.1 hu).1
   rwa [Zf] at this
  obtain ⟨k1, k2, k3⟩ := key p hp
  unfold ZB at hu
  grind
 ·intro u hu
  obtain ⟨p, hp, rfl⟩ := List.mem_map.1 hu
  simp_all
theorem VK (a b c : Array Value) (p : Nat) : (a ++ b ++ c).getD p undef = if p < a.size then a.getD p undef else if p < a.size + b.size then b.getD (p - a.size) undef else c.getD (p - (a.size + b.size)) undef := by
 simp only [Array.getD_eq_getD_getElem?, Array.getElem?_append, Array.size_append]
 grind
structure U6 (w w' : World) (e sz n m : Nat) (v v' : Value) (old cv : Nat → Nat → Value) (g0 : Option Nat) : Prop where
 os : w'.os = w.os
 tape : w'.tape = w.tape
 output : w'.output = w.output
 size : w.heap.size ≤ w'.heap.size
 drawn : dn w ≤ dn w'
 how : (∃ o, v' = .slice o 0 0 ∧ n + m = 0 ∧ w' = w) ∨
  ∃ g cap c, v' = .slice (some ⟨g, 0, none⟩) (n + m) cap ∧ (g = w.heap.size ∨ some g = g0) ∧ n + m ≤ cap ∧ cap ≤ maxLen ∧ w'.heap[g]? = some (.cells c e (0, 0)) ∧ c.size = cap * sz ∧
   (∀ b, b < w.heap.size → b ≠ g → w'.heap[b]? = w.heap[b]?) ∧
   (∀ i j, i < n → j < sz → c.getD (i * sz + j) undef = old i j) ∧ (∀ i j, i < m → j < sz → c.getD ((n + i) * sz + j) undef = cv i j)
theorem xY {e sz n m : Nat} {z : Value} {v : Value} {old cv : Nat → Nat → Value} {g0 : Option Nat} {need cap : Nat} (hz : z.cells.size = sz) (olds : List Value) (hol : olds.length = n * sz)
  (ho : ∀ i j, i < n → j < sz → olds[i * sz + j]? = some (old i j)) (hn : need = n + m) (hc : need ≤ cap) (hcm : cap ≤ maxLen) :
  U6 w (w.drew.alloc (.cells (olds.toArray ++ (ZB sz m cv).toArray ++ Builtin.zeroCells z.cells (cap - need)) e)) e sz n m v (.slice (some ⟨w.heap.size, 0, none⟩) need cap) old cv g0 := by
 subst hn
 refine ⟨rfl, rfl, rfl, by simp, se w 1, .inr ⟨w.heap.size, cap, _, rfl, .inl rfl, hc, hcm, heap_alloc_new w.drew _, ?_, fun b hb _ => heap_alloc_old w.drew _ hb, ?_, ?_⟩⟩
 ·simp only [Array.size_append, List.size_toArray, hol, Zf, size_zeroCells, hz, ← Nat.add_mul]
  simp_all
 ·intro i j hi hj
  rw [VK, if_pos (by simp only [List.size_toArray, hol]; exact we hi hj), Array.getD_eq_getD_getElem?]
  simp_all
 ·intro i j hi hj
  have h1 := we (i := i) hi hj
  have e1 : (n + i) * sz + j = n * sz + (i * sz + j) := by rw [Nat.add_mul]; omega
  rw [VK, if_neg (by simp only [List.size_toArray, hol]; omega), if_pos (by simp only [List.size_toArray, hol, Zf]; omega), Array.getD_eq_getD_getElem?]
  simp only [List.getElem?_toArray, List.size_toArray, hol]
  rw [e1, Nat.add_sub_cancel_left, X2 hi hj, Option.getD_some]
section
variable {t e ty : TypeId} {i : TypeInfo} {z : Value} (ht : P.underlying t = some (.slice e)) (hi : P.info? e = some i) (hz : i.zero = some z)
include ht hi
theorem xE (b : Option Addr) (n cap : Nat) (x : Option Addr) (c : Nat) (hn : n ≤ cap) :
  (Builtin.append_ #[t, t] ty #[.slice b n cap, .slice x 0 c]).run P w = .ok (.slice b n cap) w := by
 have hf : ∀ size, (Builtin.firstCells size 0 (.slice x 0 c)).run P w = .ok #[] w := by
  intro size
  cases x with
  | none => rfl
  | some a => simp [Builtin.firstCells, loadCells, loadCellsFrom]
 cases b with
 | none => simp [Builtin.append_, run_underlying ht, sizeOf, typeInfo, hi, Builtin.lenOf, hn, hf]
 | some a => simp [Builtin.append_, run_underlying ht, sizeOf, typeInfo, hi, Builtin.lenOf, hn, hf, storeCells]
include hz
theorem Vx {sz m : Nat} {cv : Nat → Nat → Value} {b x : Option Addr} {c : Nat} {old : Nat → Nat → Value} (hsz : 0 < sz) (hs : i.size = sz) (hzs : z.cells.size = sz) (hby : 1 ≤ i.bytes)
  (hx : 0 < m → ∃ A, x = some A ∧ ∀ i j, i < m → j < sz → w.cell? (A.add (i * sz + j)) = some (cv i j) ∧ (cv i j).oneCell' = true) (hb : m * i.bytes ≤ 140737488355328) :
  ∃ v' w', (Builtin.append_ #[t, t] ty #[.slice b 0 0, .slice x m c]).run P w = .ok v' w' ∧ U6 w w' e sz 0 m (.slice b 0 0) v' old cv none := by
 have hm47 : m ≤ 140737488355328 := Nat.le_trans (Nat.le_mul_of_pos_right _ hby) hb
 by_cases h0 : 0 < m
 ·obtain ⟨A, rfl, hcell⟩ := hx h0
  obtain ⟨n1, n2⟩ := x7 (cv := cv) hsz hcell
  have hml : m ≤ maxLen := by simp only [maxLen]; omega
  cases b with
  | none =>
   have hr := run_append_nil (P := P) w t ty e i z ht hi hz A m c (ZB sz m cv) (by rw [Zf, hs]) n1 h0 (by omega) (by omega)
   refine ⟨_, _, hr, ?_⟩
   have := xY (w := w) (e := e) (sz := sz) (n := 0) (m := m) (z := z) (v := .slice none 0 0) (old := old) (cv := cv) (g0 := none) (need := m) (cap := grownCap w m 0 e) hzs [] (by simp) (fun i j hi => absurd hi (Nat.not_lt_zero _)) (by omega)
    (grownCap_ge w m 0 e) (grownCap_le_maxLen w m 0 e hml)
   simp_all
  | some B =>
   have hr := run_append_grow (P := P) w t ty e i z ht hi hz B 0 0 [] (by simp) (fun j v hv => by simp at hv) A m c (ZB sz m cv) (by rw [Zf, hs]) n1 (by omega) (by omega)
    (growslice_fits (by omega) (by simpa using hb))
   simp only [Nat.zero_add] at hr
   refine ⟨_, _, hr, ?_⟩
   have := xY (w := w) (e := e) (sz := sz) (n := 0) (m := m) (z := z) (v := .slice (some B) 0 0) (old := old) (cv := cv) (g0 := none) (need := m) (cap := grownCap w m 0 e) hzs [] (by simp) (fun i j hi => absurd hi (Nat.not_lt_zero _)) (by omega)
    (grownCap_ge w m 0 e) (grownCap_le_maxLen w m 0 e hml)
   omega
 ·have : m = 0 := by omega
  subst this
  exact ⟨_, _, xE ht hi b 0 0 x c (Nat.le_refl _), rfl, rfl, rfl, Nat.le_refl _, Nat.le_refl _, .inl ⟨b, rfl, rfl, rfl⟩⟩
theorem lJ {sz m n cap g : Nat} {cur : Array Value} {cv old : Nat → Nat → Value} {x : Option Addr} {c : Nat} (hsz : 0 < sz) (hs : i.size = sz) (hzs : z.cells.size = sz) (hby : 1 ≤ i.bytes)
  (hg : w.heap[g]? = some (.cells cur e (0, 0))) (hcs : cap * sz = cur.size) (hcm : cap ≤ maxLen) (hn : n ≤ cap) (hold : ∀ i j, i < n → j < sz → cur.getD (i * sz + j) undef = old i j)
  (hx : 0 < m → ∃ A, x = some A ∧ ∀ i j, i < m → j < sz → w.cell? (A.add (i * sz + j)) = some (cv i j) ∧ (cv i j).oneCell' = true) (hb : (n + m) * i.bytes ≤ 140737488355328) :
  ∃ v' w', (Builtin.append_ #[t, t] ty #[.slice (some ⟨g, 0, none⟩) n cap, .slice x m c]).run P w = .ok v' w' ∧ U6 w w' e sz n m (.slice (some ⟨g, 0, none⟩) n cap) v' old cv (some g) := by
 have hm47 : n + m ≤ 140737488355328 := Nat.le_trans (Nat.le_mul_of_pos_right _ hby) hb
 have hml : n + m ≤ maxLen := by simp only [maxLen]; omega
 have hnc : n * sz ≤ cur.size := by rw [← hcs]; exact Nat.mul_le_mul_right _ hn
 by_cases h0 : 0 < m
 ·obtain ⟨A, rfl, hcell⟩ := hx h0
  obtain ⟨n1, n2⟩ := x7 (cv := cv) hsz hcell
  by_cases hroom : n + m ≤ cap
  ·have hfit : n * i.size + (ZB sz m cv).length ≤ cur.size := by
    rw [Zf, hs, ← Nat.add_mul, ← hcs]; exact Nat.mul_le_mul_right _ hroom
   have hr := run_append_room (P := P) w t ty e i ht hi g n cap cur hg A m c (ZB sz m cv) (by rw [Zf, hs]) n1 n2 hroom hfit
   refine ⟨_, _, hr, rfl, rfl, rfl, by simp, Nat.le_refl _, .inr ⟨g, cap, _, rfl, .inr rfl, hroom, hcm, setRow_heap w g cur _ e _ hg, ?_, fun b _ hb => setRow_other w g b _ hb, ?_, ?_⟩⟩
   ·grind
   ·intro i' j hi' hj
    have h1 := we (i := i') hi' hj
    rw [← hold i' j hi' hj]
    simp only [Array.getD_eq_getD_getElem?, List.getElem?_toArray, List.append_assoc]
    grind
   ·intro i' j hi' hj
    have h1 := we (i := i') hi' hj
    have e1 : (n + i') * sz + j = n * sz + (i' * sz + j) := by rw [Nat.add_mul]; omega
    simp only [Array.getD_eq_getD_getElem?, List.getElem?_toArray, List.append_assoc]
    rw [List.getElem?_append_right (by simp only [List.length_take, Array.length_toList, hs]; omega), List.getElem?_append_left (by simp only [List.length_take, Array.length_toList, hs, Zf]; omega)]
    simp only [List.length_take, Array.length_toList, hs]
    rw [show min (n * sz) cur.size = n * sz by omega, e1, Nat.add_sub_cancel_left, X2 hi' hj, Option.getD_some]
  ·obtain ⟨olds, hol⟩ : ∃ olds, olds = cur.toList.take (n * sz) := ⟨_, rfl⟩
   have hlen : olds.length = n * sz := by rw [hol, List.length_take, Array.length_toList]; omega
   have hat : ∀ p, p < n * sz → olds[p]? = some (cur.getD p undef) := fun p hp => by
    rw [hol, List.getElem?_take, if_pos hp, Array.getElem?_toList, Array.getD_eq_getD_getElem?, Array.getElem?_eq_getElem (by omega), Option.getD_some]
   have hr := run_append_grow (P := P) w t ty e i z ht hi hz ⟨g, 0, none⟩ n cap olds (by rw [hlen, hs]) (fun p v hv => by
    have hp : p < n * sz := by rw [← hlen]; exact (List.getElem?_eq_some_iff.1 hv).1
    rw [hat p hp] at hv
    cases hv
    rw [add_lit, Nat.zero_add]
    exact yk hg (by omega)) A m c (ZB sz m cv) (by rw [Zf, hs]) n1 (by omega) (by omega) (growslice_fits (by omega) hb)
   refine ⟨_, _, hr, ?_⟩
   exact xY hzs olds hlen (fun i' j hi' hj => by rw [hat _ (we hi' hj), hold i' j hi' hj]) rfl (grownCap_ge w _ cap e) (grownCap_le_maxLen w _ cap e hml)
 ·have : m = 0 := by omega
  subst this
  exact ⟨_, _, xE ht hi _ n cap x c hn, rfl, rfl, rfl, Nat.le_refl _, Nat.le_refl _, .inr ⟨g, cap, cur, rfl, .inr rfl, hn, hcm, hg, hcs.symm, fun _ _ _ => rfl, hold, fun i j hi => absurd hi (Nat.not_lt_zero _)⟩⟩
theorem sW {sz m n : Nat} {A0 : Addr} {cv old : Nat → Nat → Value} {x : Option Addr} {c : Nat} (hsz : 0 < sz) (hs : i.size = sz) (hzs : z.cells.size = sz) (hby : 1 ≤ i.bytes)
  (hold : ∀ i j, i < n → j < sz → w.cell? (A0.add (i * sz + j)) = some (old i j) ∧ (old i j).oneCell' = true) (h0 : 0 < m)
  (hx : ∃ A, x = some A ∧ ∀ i j, i < m → j < sz → w.cell? (A.add (i * sz + j)) = some (cv i j) ∧ (cv i j).oneCell' = true) (hb : (n + m) * i.bytes ≤ 140737488355328) :
  ∃ v' w', (Builtin.append_ #[t, t] ty #[.slice (some A0) n n, .slice x m c]).run P w = .ok v' w' ∧ U6 w w' e sz n m (.slice (some A0) n n) v' old cv none := by
 have hm47 : n + m ≤ 140737488355328 := Nat.le_trans (Nat.le_mul_of_pos_right _ hby) hb
 have hml : n + m ≤ maxLen := by simp only [maxLen]; omega
 obtain ⟨A, rfl, hcell⟩ := hx
 obtain ⟨n1, n2⟩ := x7 (cv := cv) hsz hcell
 obtain ⟨o1, o2⟩ := x7 (cv := old) hsz hold
 have hr := run_append_grow (P := P) w t ty e i z ht hi hz A0 n n (ZB sz n old) (by rw [Zf, hs]) o1 A m c (ZB sz m cv) (by rw [Zf, hs]) n1 (by omega) (by omega) (growslice_fits (by omega) hb)
 refine ⟨_, _, hr, ?_⟩
 exact xY hzs (ZB sz n old) (Zf ..) (fun i' j hi' hj => by rw [X2 hi' hj]) rfl (grownCap_ge w _ n e) (grownCap_le_maxLen w _ n e hml)
end
theorem X3 {e sz n m nb' : Nat} {bl' : Nat → OB} {ρ' : Nat → Own} {w' : World} {v v' : Value} {old cv : Nat → Nat → Value} {g0 : Option Nat} {els src : Nat → Nat → AV} (hM : Mem E nb' bl' S ρ' w)
  (hA : U6 w w' e sz n m v v' old cv g0) (hg0 : ∀ g, g0 = some g → ¬ S g ∧ (∀ k, ¬ (ρ' k).has g) ∧ (E.w0.heap.size ≤ g ∨ E.X g))
  (hold : ∀ i j, i < n → j < sz → zF w S yi (els i j) (old i j) ∧ (old i j).oneCell' = true) (hcv : ∀ i j, i < m → j < sz → zF w S yi (src i j) (cv i j) ∧ (cv i j).oneCell' = true) :
  ∃ o, Mem E (nb' + 1) (upd bl' nb' (.arr e sz (n + m) fun a b => if a < n then els a b else src (a - n) b)) S (upd ρ' nb' o) w' ∧ zf ρ' (upd ρ' nb' o) ∧
   (∀ b, S b → S b ∧ w'.heap[b]? = w.heap[b]?) ∧ zF w' S (upd ρ' nb' o) (.ns nb' 0 (n + m)) v' := by
 rcases hA.how with ⟨o, hv, h0, rfl⟩ | ⟨g, cap, c, hv, hgg, hc, hcm, hh, hcs, hw, hco, hcc⟩
 ·obtain ⟨g1, g2, g3⟩ := hM.adopt (w' := w') (g := w'.heap.size) (o := .nila sz) (B := .arr e sz (n + m) fun a b => if a < n then els a b else src (a - n) b)
   (fun g' hg' => by cases hg') (fun _ _ _ => rfl) (Nat.le_refl _) rfl rfl rfl (Nat.le_refl _) (fun hs => Nat.lt_irrefl _ (hM.sb _ hs)) (fun k hk => Nat.lt_irrefl _ (hM.blk_lt hk)) (.inl hM.fr.size) (fun _ _ _ _ _ hh => by cases hh) ⟨rfl, h0⟩
  refine ⟨_, g1, g2, g3, ?_⟩
  rw [h0, hv]
  exact .nsn sz o (upd_same _ _ _)
 ·have hgS : ¬ S g ∧ (∀ k, ¬ (ρ' k).has g) ∧ (E.w0.heap.size ≤ g ∨ E.X g) := by
   rcases hgg with rfl | hgg
   ·exact ⟨fun hs => Nat.lt_irrefl _ (hM.sb _ hs), fun k hk => Nat.lt_irrefl _ (hM.blk_lt hk), .inl hM.fr.size⟩
   simp_all
  have hS : ∀ b, S b → S b ∧ w'.heap[b]? = w.heap[b]? := fun b hb => ⟨hb, hw b (hM.sb b hb) fun e => hgS.1 (e ▸ hb)⟩
  obtain ⟨g1, g2, g3⟩ := hM.adopt (w' := w') (g := g) (o := .arr g 0 cap sz (n + m)) (B := .arr e sz (n + m) fun a b => if a < n then els a b else src (a - n) b)
   (fun g' hg' => by cases hg'; rfl) hw hA.size hA.os hA.tape hA.output hA.drawn hgS.1 hgS.2.1 hgS.2.2 (fun _ _ _ _ _ hh => by cases hh; rfl)
   ⟨rfl, rfl, hc, hcm, c, hh, by rw [hcs]; simp, fun a b ha hb => by
    simp only [Nat.zero_add]
    by_cases hlt : a < n
    ·rw [if_pos hlt, hco a b hlt hb]
     exact ⟨(hold a b hlt hb).1.mono hS (zf.refl _), (hold a b hlt hb).2⟩
    ·rw [if_neg hlt]
     have := hcc (a - n) b (by omega) hb
     rw [show n + (a - n) = a by omega] at this
     rw [this]
     exact ⟨(hcv _ b (by omega) hb).1.mono hS (zf.refl _), (hcv _ b (by omega) hb).2⟩⟩
  refine ⟨_, g1, g2, g3, ?_⟩
  rw [hv]
  have := zF.ns (w := w') (S := S) (ρ := upd ρ' nb' (.arr g 0 cap sz (n + m))) (k := nb') (off := 0) (len := n + m) g 0 cap sz (n + m) (upd_same _ _ _) (by omega) hc
  simp_all
theorem nl {e sz n m : Nat} {w' : World} {v v' : Value} {old cv : Nat → Nat → Value} {els src : Nat → Nat → AV} (hM : Mem E nb bl S ρ w) (hA : U6 w w' e sz n m v v' old cv none)
  (hold : ∀ i j, i < n → j < sz → zF w S yi (els i j) (old i j) ∧ (old i j).oneCell' = true) (hcv : ∀ i j, i < m → j < sz → zF w S yi (src i j) (cv i j) ∧ (cv i j).oneCell' = true) :
  ∃ S' : Nat → Prop, Mem E nb bl S' ρ w' ∧ (∀ b, S b → S' b ∧ w'.heap[b]? = w.heap[b]?) ∧ zF w' S' ρ (.xl false sz (n + m) fun a b => if a < n then els a b else src (a - n) b) v' := by
 rcases hA.how with ⟨o, hv, h0, rfl⟩ | ⟨g, cap, c, hv, hgg, hc, hcm, hh, hcs, hw, hco, hcc⟩
 ·refine ⟨S, hM, fun b hb => ⟨hb, rfl⟩, ?_⟩
  rw [h0, hv]
  exact .xl o 0 (fun _ _ => undef) (Nat.le_refl _) (Nat.zero_le _) (fun _ => rfl) (fun i j hi => absurd hi (Nat.not_lt_zero _)) fun i j hi => absurd hi (Nat.not_lt_zero _)
 ·obtain rfl : g = w.heap.size := by
   simp_all
  have hlt : w.heap.size < w'.heap.size := by
   grind
  obtain ⟨g1, g3⟩ := hM.grow (w' := w') ⟨⟨hA.os, hA.tape, hA.output, hA.size, fun b hb => hw b hb (by omega)⟩, hA.drawn⟩
  refine ⟨_, g1, g3, ?_⟩
  rw [hv]
  have hat : ∀ a b, a < n + m → b < sz → zF w S yi (if a < n then els a b else src (a - n) b) (c.getD (a * sz + b) undef) ∧ (c.getD (a * sz + b) undef).oneCell' = true := fun a b ha hb => by
   grind
  refine .xl _ _ (fun a b => c.getD (a * sz + b) undef) hc hcm (fun h => by cases h) (fun a b ha hb => ?_) fun a b ha hb => (hat a b ha hb).1.mono g3 (zf.refl _)
  refine ⟨_, rfl, .inr ⟨Nat.le_refl _, hlt⟩, ?_, (hat a b ha hb).2⟩
  have hlt2 : a * sz + b < c.size := by
   rw [hcs]
   have : a * sz + sz ≤ cap * sz := by rw [← Nat.succ_mul]; exact Nat.mul_le_mul_right _ (by omega)
   omega
  rw [add_lit, Nat.zero_add, yk hh hlt2]
theorem oF {src : Nat → Nat → AV} : (fun a b => if a < 0 then (src a b) else src (a - 0) b) = src := by
 rfl
theorem UO {σ σ' : zo} {t : TypeId} {s x : AV} {os ox : Operand} {r : AV} {a : Act} {o : Oper} {e : Operand → Value} {ps : List zn}
  (ho : o.op = .call { callee := .builtin .append, args := #[os, ox], argTypes := #[t, t] }) (hM : Mem E σ.nb σ.bl S ρ w) (hF : Yq w S ρ σ.n σ.tm a) (hD : wi E.w0.heap.size w S a.defers)
  (hs : zF w S ρ s (e os)) (hx : zF w S ρ x (e ox)) (h : Z0 P σ t s x = some (ps, σ', r)) (hp : ∀ p ∈ ps, p.holds) : Eff P E e o a w σ' r := by
 unfold Z0 at h
 split at h
 ·rename_i el hu
  split at h
  ·rename_i i hi
   split at h
   ·rename_i z m src hz hsrc
    split at h
    ·rename_i hc
     obtain ⟨c1, c2, c3⟩ := hc
     obtain ⟨xo, xc, hxv, hxc⟩ := uc hM hx c1 hsrc
     obtain ⟨cv, hcv⟩ : ∃ cv : Nat → Nat → Value, 0 < m → ∃ A, xo = some A ∧ ∀ i' j, i' < m → j < i.size →
       w.cell? (A.add (i' * i.size + j)) = some (cv i' j) ∧ (cv i' j).oneCell' = true ∧ zF w S yi (src i' j) (cv i' j) := by
      by_cases h0 : 0 < m
      ·obtain ⟨A, e1, cv, h2⟩ := hxc h0
       simp_all
      simp_all
     have hx1 : 0 < m → ∃ A, xo = some A ∧ ∀ i' j, i' < m → j < i.size → w.cell? (A.add (i' * i.size + j)) = some (cv i' j) ∧ (cv i' j).oneCell' = true := fun h0 => by
      grind
     have hx2 : ∀ i' j, i' < m → j < i.size → zF w S yi (src i' j) (cv i' j) ∧ (cv i' j).oneCell' = true := fun i' j hi' hj => by
      grind
     have empty : ∀ {b : Option Addr}, e os = .slice b 0 0 → m * i.bytes ≤ 140737488355328 → Eff P E e o a w (σ.add (.arr el i.size m src)) (.ns σ.nb 0 m) := by
      intro b hv hb
      obtain ⟨v', w', hr, hA⟩ := Vx (P := P) (ty := o.type) (b := b) (c := xc) (old := fun _ _ => undef) hu hi hz c1 rfl c2 c3 hx1 hb
      obtain ⟨ow, g1, g2, g3, g4⟩ := X3 (els := fun a b => src a b) (src := src) hM hA (fun g hg => by cases hg) (fun i j hi => absurd hi (Nat.not_lt_zero _)) hx2
      rw [Nat.zero_add] at g1 g4
      rw [oF] at g1
      exact ⟨_, v', w', S, _, XO ho (by rw [hv, hxv]; exact hr), .inl rfl, g1, hF.mono g3 g2, hD.mono g3, g4⟩
     split at h
     ·cases h
      exact empty (ZW hs) (cd (hp _ (List.mem_cons_self ..)))
     ·rename_i sz n els'
      split at h
      ·rename_i hse
       subst hse
       split at h
       ·rename_i hfz
        cases h
        have hb : (n + m) * i.bytes ≤ 140737488355328 := cd (hp _ List.mem_cons_self)
        obtain ⟨pv, hsv⟩ : ∃ pv, e os = pv := ⟨_, rfl⟩
        rw [hsv] at hs
        cases hs with
        | xl o' cap cvs hle hm hf hc hr =>
         have := hf rfl
         subst this
         cases cap with
         | zero => cases hfz
         | succ n' =>
          obtain ⟨A0, e0, _⟩ := hc 0 0 (Nat.succ_pos _) c1
          subst e0
          have hold : ∀ i' j, i' < n' + 1 → j < i.size → S A0.block ∧ w.cell? (A0.add (i' * i.size + j)) = some (cvs i' j) ∧ (cvs i' j).oneCell' = true := fun i' j hi' hj => by
           simp_all
          by_cases hm0 : 0 < m
          ·obtain ⟨v', w', hr', hA⟩ := sW (P := P) (ty := o.type) (n := n' + 1) (c := xc) (old := cvs) hu hi hz c1 rfl c2 c3 (fun i' j hi' hj => (hold i' j hi' hj).2) hm0 (hx1 hm0) hb
           obtain ⟨S', g1, g3, g4⟩ := nl (els := els') (src := src) hM hA (fun i' j hi' hj => ⟨hr i' j hi' hj, (hold i' j hi' hj).2.2⟩) hx2
           exact ⟨_, v', w', S', ρ, XO ho (by rw [hsv, hxv]; exact hr'), .inl rfl, g1, hF.mono g3 (zf.refl _), hD.mono g3, g4⟩
          ·obtain rfl : m = 0 := by omega
           refine ⟨_, _, w, S, ρ, XO ho (by rw [hsv, hxv]; exact xE hu hi _ (n' + 1) (n' + 1) xo xc (Nat.le_refl _)), .inl rfl, hM, hF, hD, ?_⟩
           refine .xl _ _ cvs (Nat.le_refl _) hm (fun h => by cases h) hc fun i' j hi' hj => ?_
           simp_all
       cases h
       have hb : (n + m) * i.bytes ≤ 140737488355328 := cd (hp _ (List.mem_cons_of_mem _ List.mem_cons_self))
       have hnm : Nat.beq n 0 = true ∨ Nat.blt 0 m = true := by simpa [zn.holds] using hp _ List.mem_cons_self
       obtain ⟨pv, hsv⟩ : ∃ pv, e os = pv := ⟨_, rfl⟩
       rw [hsv] at hs
       cases hs with
       | xl o' cap cvs hle hm hf hc hr =>
        have := hf rfl
        subst this
        cases cap with
        | zero =>
         simp_all
        | succ n' =>
         have hm0 : 0 < m := by
          simp_all
         obtain ⟨A0, e0, _⟩ := hc 0 0 (Nat.succ_pos _) c1
         subst e0
         have hold : ∀ i' j, i' < n' + 1 → j < i.size → S A0.block ∧ w.cell? (A0.add (i' * i.size + j)) = some (cvs i' j) ∧ (cvs i' j).oneCell' = true := fun i' j hi' hj => by
          simp_all
         obtain ⟨v', w', hr', hA⟩ := sW (P := P) (ty := o.type) (n := n' + 1) (c := xc) (old := cvs) hu hi hz c1 rfl c2 c3 (fun i' j hi' hj => (hold i' j hi' hj).2) hm0 (hx1 hm0) hb
         obtain ⟨ow, g1, g2, g3, g4⟩ := X3 (els := els') (src := src) hM hA (fun g hg => by cases hg) (fun i' j hi' hj => ⟨hr i' j hi' hj, (hold i' j hi' hj).2.2⟩) hx2
         exact ⟨_, v', w', S, _, XO ho (by rw [hsv, hxv]; exact hr'), .inl rfl, g1, hF.mono g3 g2, hD.mono g3, g4⟩
      ·cases h
     ·rename_i k n
      split at h
      ·rename_i e' sz L els hB
       split at h
       ·rename_i hcc
        obtain ⟨d1, d2, d3⟩ := hcc
        subst d1; subst d2
        cases h
        have hb := cd (hp _ (List.mem_cons_self ..))
        obtain ⟨k1, k2, k3⟩ := hM.kill k d3 false
        have hkS : ∀ b, S b → S b ∧ w.heap[b]? = w.heap[b]? := fun b hb => ⟨hb, rfl⟩
        have k1' : Mem E σ.nb (upd σ.bl k .dead) S (upd ρ k .dead) w := by
         simp_all
        have close : ∀ {v' : Value} {w' : World} {old : Nat → Nat → Value} {v : Value} {g0 : Option Nat}, (Builtin.append_ #[t, t] o.type #[e os, e ox]).run P w = .ok v' w' →
          U6 w w' e' i.size n m v v' old cv g0 → (∀ g, g0 = some g → (ρ k).has g) → (∀ i' j, i' < n → j < i.size → zF w S yi (els i' j) (old i' j) ∧ (old i' j).oneCell' = true) →
          Eff P E e o a w { σ with nb := σ.nb + 1, bl := upd (upd σ.bl k .dead) σ.nb (.arr e' i.size (n + m) fun a b => if a < n then els a b else src (a - n) b) } (.ns σ.nb 0 (n + m)) := by
         intro v' w' old v g0 hr hA hg0 hold
         obtain ⟨ow, g1, g2, g3, g4⟩ := X3 (els := els) (src := src) k1' hA (fun g hg => by
          have hk := hg0 g hg
          refine ⟨(hM.own k g hk).1, fun j hj => ?_, (hM.own k g hk).2⟩
          by_cases ej : j = k
          ·subst ej; rw [upd_same] at hj; exact hj.elim
          ·rw [zM _ _ ej] at hj; exact ej (hM.dis j k g hj hk)) hold hx2
         exact ⟨_, v', w', S, _, XO ho hr, .inl rfl, g1, (hF.mono hkS k2).mono g3 g2, hD.mono g3, g4⟩
        have hbk := hM.at k
        obtain ⟨pv, hsv⟩ : ∃ pv, e os = pv := ⟨_, rfl⟩
        rw [hsv] at hs
        cases hs with
        | dns hd hsh => exact (hM.arr (by rw [hB]; rfl) hd).elim
        | ns g base cap sz' L' hk hl hcap =>
         have hb0 := hM.b0 _ _ _ _ _ _ hk
         subst hb0
         have hbk := hbk.resolve_left (by rw [hk]; simp)
         rw [hB, hk] at hbk
         obtain ⟨e1, e2, h1, h2, c, h3, h4, h5⟩ := hbk
         subst e1; subst e2
         simp only [Nat.zero_add] at h4 h5 hl
         obtain ⟨v', w', hr, hA⟩ := lJ (P := P) (ty := o.type) (n := n) (c := xc) (old := fun i' j => c.getD (i' * i.size + j) undef) hu hi hz c1 rfl c2 c3 h3 h4 h2 (by omega) (fun _ _ _ _ => rfl) hx1 hb
         refine close (by rw [hsv, hxv]; simpa using hr) hA (fun g' hg' => by cases hg'; rw [hk]; rfl) (fun i' j hi' hj => h5 i' j (by omega) hj)
        | ns0 g base cap sz' L' A hk hl hcap h0 =>
         obtain ⟨v', w', hr, hA⟩ := Vx (P := P) (ty := o.type) (b := some A) (c := xc) (old := fun _ _ => undef) hu hi hz c1 rfl c2 c3 hx1 (by simpa using hb)
         grind
        | nsn sz' o' hk =>
         obtain ⟨v', w', hr, hA⟩ := Vx (P := P) (ty := o.type) (b := o') (c := xc) (old := fun _ _ => undef) hu hi hz c1 rfl c2 c3 hx1 (by simpa using hb)
         grind
       ·cases h
      ·cases h
     ·cases h
    ·cases h
   ·cases h
  ·cases h
 ·cases h
def v7 (l : List UInt8) (i _j : Nat) : AV := .v (.int .u8 (l.getD i 0).toNat)
def Y6 (P : Program) (σ : zo) (t u : TypeId) (s x : AV) : Option (List zn × zo × AV) :=
 match x, P.underlying t, P.underlying u with
 | .str l, some (.slice e), some .string =>
  match P.info? e with
  | some i =>
   match i.zero with
   | some z =>
    if i.size = 1 ∧ z.cells.size = 1 ∧ 1 ≤ i.bytes then
     match s with
     | .v (.slice none 0 0) => some ([.d (l.length * i.bytes ≤ 140737488355328)], σ.add (.arr e 1 l.length (v7 l)), .ns σ.nb 0 l.length)
     | .ns k 0 n =>
      match σ.bl k with
      | .arr e' sz _ els =>
       if sz = 1 ∧ e' = e ∧ k < σ.nb then
        some ([.d ((n + l.length) * i.bytes ≤ 140737488355328)],
         { σ with nb := σ.nb + 1, bl := upd (upd σ.bl k .dead) σ.nb (.arr e 1 (n + l.length) fun a b => if a < n then els a b else v7 l (a - n) b) }, .ns σ.nb 0 (n + l.length))
       else none
      | _ => none
     | _ => none
    else none
   | none => none
  | none => none
 | _, _, _ => none
section
variable {t u e ty : TypeId} {i : TypeInfo} {z : Value} (ht : P.underlying t = some (.slice e)) (hi : P.info? e = some i) (hz : i.zero = some z)
include ht hi hz
theorem Xo {sz m : Nat} {cv : Nat → Nat → Value} {b : Option Addr} {x : Value} {old : Nat → Nat → Value} (hsz : 0 < sz) (hs : i.size = sz) (hzs : z.cells.size = sz) (hby : 1 ≤ i.bytes)
  (hS : Src P i.size u x m (ZB sz m cv) w) (hb : m * i.bytes ≤ 140737488355328) :
  ∃ v' w', (Builtin.append_ #[t, u] ty #[.slice b 0 0, x]).run P w = .ok v' w' ∧ U6 w w' e sz 0 m (.slice b 0 0) v' old cv none := by
 have hm47 : m ≤ 140737488355328 := Nat.le_trans (Nat.le_mul_of_pos_right _ hby) hb
 by_cases h0 : 0 < m
 ·have hml : m ≤ maxLen := by simp only [maxLen]; omega
  have hr := run_append_grow_src (P := P) w t u ty e i z ht hi hz b 0 0 [] (by cases b <;> simp [Builtin.firstCells, loadCells, loadCellsFrom]) x m _ hS (by omega) (by omega) (growslice_fits (by omega) (by simpa using hb))
  refine ⟨_, _, hr, ?_⟩
  have := xY (w := w) (e := e) (sz := sz) (n := 0) (m := m) (z := z) (v := .slice b 0 0) (old := old) (cv := cv) (g0 := none) (need := 0 + m) (cap := grownCap w (0 + m) 0 e) hzs [] (by simp) (fun i j hi => absurd hi (Nat.not_lt_zero _)) rfl
   (grownCap_ge w _ 0 e) (grownCap_le_maxLen w _ 0 e (by omega))
  simp_all
 ·have : m = 0 := by omega
  subst this
  have hn : ZB sz 0 cv = [] := by simp [ZB]
  rw [hn] at hS
  exact ⟨_, _, run_append_nothing w t u ty e i ht hi b 0 0 (Nat.le_refl _) x hS, rfl, rfl, rfl, Nat.le_refl _, Nat.le_refl _, .inl ⟨b, rfl, rfl, rfl⟩⟩
theorem Rv {sz m n cap g : Nat} {cur : Array Value} {cv old : Nat → Nat → Value} {x : Value} (hsz : 0 < sz) (hs : i.size = sz) (hzs : z.cells.size = sz) (hby : 1 ≤ i.bytes)
  (hg : w.heap[g]? = some (.cells cur e (0, 0))) (hcs : cap * sz = cur.size) (hcm : cap ≤ maxLen) (hn : n ≤ cap) (hold : ∀ i j, i < n → j < sz → cur.getD (i * sz + j) undef = old i j)
  (hS : Src P i.size u x m (ZB sz m cv) w) (hb : (n + m) * i.bytes ≤ 140737488355328) :
  ∃ v' w', (Builtin.append_ #[t, u] ty #[.slice (some ⟨g, 0, none⟩) n cap, x]).run P w = .ok v' w' ∧ U6 w w' e sz n m (.slice (some ⟨g, 0, none⟩) n cap) v' old cv (some g) := by
 have hm47 : n + m ≤ 140737488355328 := Nat.le_trans (Nat.le_mul_of_pos_right _ hby) hb
 have hml : n + m ≤ maxLen := by simp only [maxLen]; omega
 have hnc : n * sz ≤ cur.size := by rw [← hcs]; exact Nat.mul_le_mul_right _ hn
 by_cases h0 : 0 < m
 ·by_cases hroom : n + m ≤ cap
  ·have hfit : n * i.size + (ZB sz m cv).length ≤ cur.size := by
    rw [Zf, hs, ← Nat.add_mul, ← hcs]; exact Nat.mul_le_mul_right _ hroom
   have hr : (Builtin.append_ #[t, u] ty #[.slice (some ⟨g, 0, none⟩) n cap, x]).run P w =
     .ok (.slice (some ⟨g, 0, none⟩) (n + m) cap) (w.setRow g (cur.toList.take (n * i.size) ++ ZB sz m cv ++ cur.toList.drop (n * i.size + (ZB sz m cv).length)).toArray) := by
    have hst := run_storeCells_at P g (n * i.size) e (ZB sz m cv) 0 cur w hg (by simpa using hfit) hS.one
    simp only [Nat.add_zero] at hst
    rcases hS.kind with ⟨e', hk⟩ | hk <;> simp [Builtin.append_, run_underlying ht, run_underlying hk, sizeOf, typeInfo, hi, hS.len, hroom, hS.cells, Addr.add_lit, hst]
   refine ⟨_, _, hr, ?_⟩
   refine ⟨rfl, rfl, rfl, by simp, Nat.le_refl _, .inr ⟨g, cap, _, rfl, .inr rfl, hroom, hcm, setRow_heap w g cur _ e _ hg, ?_, fun b _ hb => setRow_other w g b _ hb, ?_, ?_⟩⟩
   ·grind
   ·intro i' j hi' hj
    have h1 := we (i := i') hi' hj
    rw [← hold i' j hi' hj]
    simp only [Array.getD_eq_getD_getElem?, List.getElem?_toArray, List.append_assoc]
    grind
   ·intro i' j hi' hj
    have h1 := we (i := i') hi' hj
    have e1 : (n + i') * sz + j = n * sz + (i' * sz + j) := by rw [Nat.add_mul]; omega
    simp only [Array.getD_eq_getD_getElem?, List.getElem?_toArray, List.append_assoc]
    rw [List.getElem?_append_right (by simp only [List.length_take, Array.length_toList, hs]; omega), List.getElem?_append_left (by simp only [List.length_take, Array.length_toList, hs, Zf]; omega)]
    simp only [List.length_take, Array.length_toList, hs]
    rw [show min (n * sz) cur.size = n * sz by omega, e1, Nat.add_sub_cancel_left, X2 hi' hj, Option.getD_some]
  ·obtain ⟨olds, hol⟩ : ∃ olds, olds = cur.toList.take (n * sz) := ⟨_, rfl⟩
   have hlen : olds.length = n * sz := by rw [hol, List.length_take, Array.length_toList]; omega
   have hat : ∀ p, p < n * sz → olds[p]? = some (cur.getD p undef) := fun p hp => by
    rw [hol, List.getElem?_take, if_pos hp, Array.getElem?_toList, Array.getD_eq_getD_getElem?, Array.getElem?_eq_getElem (by omega), Option.getD_some]
   have hr := run_append_grow_src (P := P) w t u ty e i z ht hi hz (some ⟨g, 0, none⟩) n cap olds (run_firstCells_some w.drew i.size n ⟨g, 0, none⟩ n cap olds (by rw [hlen, hs]) (fun p v hv => by
    have hp : p < n * sz := by rw [← hlen]; exact (List.getElem?_eq_some_iff.1 hv).1
    rw [hat p hp] at hv
    cases hv
    rw [add_lit, Nat.zero_add]
    exact yk (w := w.drew) hg (by omega))) x m _ hS (by omega) (by omega) (growslice_fits (by omega) hb)
   refine ⟨_, _, hr, ?_⟩
   rw [← List.append_toArray]
   exact xY hzs olds hlen (fun i' j hi' hj => by rw [hat _ (we hi' hj), hold i' j hi' hj]) rfl (grownCap_ge w _ cap e) (grownCap_le_maxLen w _ cap e hml)
 ·have : m = 0 := by omega
  subst this
  have hn' : ZB sz 0 cv = [] := by simp [ZB]
  rw [hn'] at hS
  exact ⟨_, _, run_append_nothing w t u ty e i ht hi _ n cap hn x hS, rfl, rfl, rfl, Nat.le_refl _, Nat.le_refl _, .inr ⟨g, cap, cur, rfl, .inr rfl, hn, hcm, hg, hcs.symm, fun _ _ _ => rfl, hold, fun i j hi => absurd hi (Nat.not_lt_zero _)⟩⟩
end
theorem Uw {o : Oper} {e : Operand → Value} {os ox : Operand} {t u : TypeId} (ho : o.op = .call { callee := .builtin .append, args := #[os, ox], argTypes := #[t, u] }) {v : Value} {w' : World}
  (h : (Builtin.append_ #[t, u] o.type #[e os, e ox]).run P w = .ok v w') : (execOp e o).run P w = .ok (.value v) w' := by
 simp only [execOp, ho, resolve, Sem.run_bind, Sem.run_pure, Result.andThen_ok, invoke, builtin, List.map_toArray, List.map_cons, List.map_nil, h]
theorem jY (l : List UInt8) : Go.byteCells ⟨l.toArray⟩ = ZB 1 l.length fun i _ => .int .u8 (l.getD i 0).toNat := by
 apply List.ext_getElem?
 intro p
 by_cases hp : p < l.length
 ·have := X2 (sz := 1) (m := l.length) (cv := fun i _ => Value.int .u8 (l.getD i 0).toNat) (i := p) (j := 0) hp (by omega)
  rw [Nat.mul_one, Nat.add_zero] at this
  rw [this]
  simp [Go.byteCells, List.getElem?_map, List.getElem?_eq_getElem hp]
 ·rw [List.getElem?_eq_none (by simp [Go.byteCells]; omega), List.getElem?_eq_none (by rw [Zf]; omega)]
theorem Um {σ σ' : zo} {t u : TypeId} {s x : AV} {os ox : Operand} {r : AV} {a : Act} {o : Oper} {e : Operand → Value} {ps : List zn}
  (ho : o.op = .call { callee := .builtin .append, args := #[os, ox], argTypes := #[t, u] }) (hM : Mem E σ.nb σ.bl S ρ w) (hF : Yq w S ρ σ.n σ.tm a) (hD : wi E.w0.heap.size w S a.defers)
  (hs : zF w S ρ s (e os)) (hx : zF w S ρ x (e ox)) (h : Y6 P σ t u s x = some (ps, σ', r)) (hp : ∀ p ∈ ps, p.holds) : Eff P E e o a w σ' r := by
 unfold Y6 at h
 split at h
 ·rename_i l el hu huu
  split at h
  ·rename_i i hi
   split at h
   ·rename_i z hz
    split at h
    ·rename_i hc
     obtain ⟨c1, c2, c3⟩ := hc
     have hxv : e ox = .string ⟨l.toArray⟩ := by
      generalize e ox = pv at hx
      cases hx; rfl
     obtain ⟨cv, hcv⟩ : ∃ cv : Nat → Nat → Value, cv = fun i _ => .int .u8 (l.getD i 0).toNat := ⟨_, rfl⟩
     have hS : Src P i.size u (e ox) l.length (ZB 1 l.length cv) w := by
      rw [c1, hxv, hcv, ← jY]
      have := Src.ofString (P := P) w huu ⟨l.toArray⟩
      assumption
     have hx2 : ∀ i' j, i' < l.length → j < 1 → zF w S yi (v7 l i' j) (cv i' j) ∧ (cv i' j).oneCell' = true := fun i' j _ _ => by
      rw [hcv]; exact ⟨.v _, rfl⟩
     split at h
     ·cases h
      have hb : l.length * i.bytes ≤ 140737488355328 := cd (hp _ (List.mem_cons_self ..))
      obtain ⟨v', w', hr, hA⟩ := Xo (P := P) (ty := o.type) (b := none) (old := fun _ _ => undef) hu hi hz (by omega) c1 c2 c3 hS hb
      obtain ⟨ow, g1, g2, g3, g4⟩ := X3 (els := fun a b => v7 l a b) (src := v7 l) hM hA (fun g hg => by cases hg) (fun i j hi => absurd hi (Nat.not_lt_zero _)) hx2
      rw [Nat.zero_add] at g1 g4
      rw [oF] at g1
      exact ⟨_, v', w', S, _, Uw ho (by rw [ZW hs]; exact hr), .inl rfl, g1, hF.mono g3 g2, hD.mono g3, g4⟩
     ·rename_i k n
      split at h
      ·rename_i e' sz L els hB
       split at h
       ·rename_i hcc
        obtain ⟨d1, d2, d3⟩ := hcc
        subst d1; subst d2
        cases h
        have hb := cd (hp _ (List.mem_cons_self ..))
        obtain ⟨k1, k2, k3⟩ := hM.kill k d3 false
        have hkS : ∀ b, S b → S b ∧ w.heap[b]? = w.heap[b]? := fun b hb => ⟨hb, rfl⟩
        have k1' : Mem E σ.nb (upd σ.bl k .dead) S (upd ρ k .dead) w := by
         simp_all
        have close : ∀ {v' : Value} {w' : World} {old : Nat → Nat → Value} {v : Value} {g0 : Option Nat}, (Builtin.append_ #[t, u] o.type #[e os, e ox]).run P w = .ok v' w' →
          U6 w w' e' 1 n l.length v v' old cv g0 → (∀ g, g0 = some g → (ρ k).has g) → (∀ i' j, i' < n → j < 1 → zF w S yi (els i' j) (old i' j) ∧ (old i' j).oneCell' = true) →
          Eff P E e o a w { σ with nb := σ.nb + 1, bl := upd (upd σ.bl k .dead) σ.nb (.arr e' 1 (n + l.length) fun a b => if a < n then els a b else v7 l (a - n) b) } (.ns σ.nb 0 (n + l.length)) := by
         intro v' w' old v g0 hr hA hg0 hold
         obtain ⟨ow, g1, g2, g3, g4⟩ := X3 (els := els) (src := v7 l) k1' hA (fun g hg => by
          have hk := hg0 g hg
          refine ⟨(hM.own k g hk).1, fun j hj => ?_, (hM.own k g hk).2⟩
          by_cases ej : j = k
          ·subst ej; rw [upd_same] at hj; exact hj.elim
          ·rw [zM _ _ ej] at hj; exact ej (hM.dis j k g hj hk)) hold hx2
         exact ⟨_, v', w', S, _, Uw ho hr, .inl rfl, g1, (hF.mono hkS k2).mono g3 g2, hD.mono g3, g4⟩
        have hbk := hM.at k
        obtain ⟨pv, hsv⟩ : ∃ pv, e os = pv := ⟨_, rfl⟩
        rw [hsv] at hs
        cases hs with
        | dns hd hsh => exact (hM.arr (by rw [hB]; rfl) hd).elim
        | ns g base cap sz' L' hk hl hcap =>
         have hb0 := hM.b0 _ _ _ _ _ _ hk
         subst hb0
         have hbk := hbk.resolve_left (by rw [hk]; simp)
         rw [hB, hk] at hbk
         obtain ⟨e1, e2, h1, h2, c, h3, h4, h5⟩ := hbk
         subst e1; subst e2
         simp only [Nat.zero_add] at h4 h5 hl
         obtain ⟨v', w', hr, hA⟩ := Rv (P := P) (ty := o.type) (n := n) (old := fun i' j => c.getD (i' * 1 + j) undef) hu hi hz (by omega) c1 c2 c3 h3 h4 h2 (by omega) (fun _ _ _ _ => rfl) hS hb
         refine close (by rw [hsv]; simpa using hr) hA (fun g' hg' => by cases hg'; rw [hk]; rfl) (fun i' j hi' hj => h5 i' j (by omega) hj)
        | ns0 g base cap sz' L' A hk hl hcap h0 =>
         obtain ⟨v', w', hr, hA⟩ := Xo (P := P) (ty := o.type) (b := some A) (old := fun _ _ => undef) hu hi hz (by omega) c1 c2 c3 hS (by simpa using hb)
         grind
        | nsn sz' o' hk =>
         obtain ⟨v', w', hr, hA⟩ := Xo (P := P) (ty := o.type) (b := o') (old := fun _ _ => undef) hu hi hz (by omega) c1 c2 c3 hS (by simpa using hb)
         grind
       ·cases h
      ·cases h
     ·cases h
    ·cases h
   ·cases h
  ·cases h
 ·cases h
end
end Go.Sx
