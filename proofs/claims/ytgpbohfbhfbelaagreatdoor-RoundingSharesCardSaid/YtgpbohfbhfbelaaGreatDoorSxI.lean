/- The operations that make or write memory of the activation's own. -/
import Derived.Test.YtgpbohfbhfbelaaGreatDoorSxG
import Derived.Maps.AppendAt
set_option linter.unusedSimpArgs false
set_option linter.unusedVariables false
namespace Go.Sx
open Go Go.RowKit
def Mj : OB → Bool
 | .lrec .. => true
 | _ => false
def zh.add (σ : zh) (B : OB) : zh := { σ with nb := σ.nb + 1, bl := upd σ.bl σ.nb B }
def xe (P : Program) (σ : zh) (elem : TypeId) : Option (zh × AV) :=
 match P.info? elem, P.underlying elem with
 | some i, some (.array N e) =>
  match i.zero with
  | some z =>
   if 0 < N ∧ z.cells.size = N ∧ P.cellsOf e = 1 ∧ (P.info? e).isSome ∧ N ≤ 16777216 ∧ z.cells.toList.all (Qu (z.cells.getD 0 undef)) then
    some (σ.add (.arr elem 1 N fun _ _ => Ri (z.cells.getD 0 undef)), .ap σ.nb 0 0)
   else if z.cells.toList.all (·.oneCell') then some (σ.add (.box elem z.cells.size (ZC z)), .np σ.nb 0) else none
  | none => none
 | some i, some _ =>
  match i.zero with
  | some z => if z.cells.toList.all (·.oneCell') then some (σ.add (.box elem z.cells.size (ZC z)), .np σ.nb 0) else none
  | none => none
 | _, _ => none
def Wn (σ : zh) (t : TypeId) (x : AV) : Option (zh × AV) :=
 match W4 x with
 | some (n, cs) => some (σ.add (.box t n cs), .np σ.nb 0)
 | none => none
def Tu (P : Program) (σ : zh) (t : TypeId) (p x : AV) : Option zh :=
 match W4 x with
 | some (m, cs) =>
  if P.cellsOf t = m ∧ (P.info? t).isSome then
   match p with
   | .np k off =>
    match σ.bl k with
    | .box u n cells => if off + m ≤ n then some { σ with bl := upd σ.bl k (.box u n fun i => if off ≤ i ∧ i < off + m then cs (i - off) else cells i) } else none
    | _ => none
   | .ap k i j =>
    match σ.bl k with
    | .arr u sz len els =>
     if j + m ≤ sz ∧ Tl (fun i => !(cs i).hasOwn) m then
      some { σ with bl := upd σ.bl k (.arr u sz len fun i' j' => if i' = i ∧ j ≤ j' ∧ j' < j + m then cs (j' - j) else els i' j') }
     else if sz = 1 ∧ j = 0 ∧ i + m ≤ len ∧ Tl (fun i => !(cs i).hasOwn) m then
      some { σ with bl := upd σ.bl k (.arr u sz len fun i' j' => if i ≤ i' ∧ i' < i + m then cs (i' - i) else els i' j') }
     else none
    | _ => none
   | _ => none
  else none
 | none => none
section
variable {P : Program} {E : Env} {nb : Nat} {bl : Nat → OB} {S : Nat → Prop} {ρ : Nat → Own} {w : World}
theorem Mem.lrec (hM : Mem E nb bl S ρ w) {k : Nat} (h : Mj (bl k) = true) (h0 : ρ k = .dead) : False := by
 have hb := (hM.at k).resolve_left (by rw [h0]; simp)
 rw [h0] at hb
 cases hB : bl k <;> rw [hB] at hb h <;> first | exact hb.elim | cases h
def Eff (P : Program) (E : Env) (e : Operand → Value) (o : Oper) (a : Act) (w : World) (σ' : zh) (r : AV) : Prop :=
 ∃ nx v w' S' ρ', (execOp e o).run P w = .ok nx w' ∧ (nx = .value v ∨ (nx = .skip ∧ v = undef)) ∧ Mem E σ'.nb σ'.bl S' ρ' w' ∧ Y3 w' S' ρ' σ'.n σ'.tm a ∧
  W2 E.w0.heap.size w' S' a.defers ∧ zE w' S' ρ' r v
theorem VF {t : TypeId} {i : TypeInfo} {z : Value} (hi : P.info? t = some i) (hz : i.zero = some z) (w : World) : (zeroValue t).run P w = .ok z w := by
 simp [zeroValue, typeInfo, hi, hz]
theorem t6 {σ σ' : zh} {elem : TypeId} {r : AV} {a : Act} {o : Oper} {e : Operand → Value} (ho : o.op = .alloc elem) (hM : Mem E σ.nb σ.bl S ρ w) (hF : Y3 w S ρ σ.n σ.tm a) (hD : W2 E.w0.heap.size w S a.defers)
  (h : xe P σ elem = some (σ', r)) : Eff P E e o a w σ' r := by
 have hrun : ∀ {i : TypeInfo} {z : Value}, P.info? elem = some i → i.zero = some z → (execOp e o).run P w = .ok (.value (.pointer (some ⟨w.heap.size, 0, none⟩))) (w.alloc (.cells z.cells elem)) := by
  intro i z hi hz
  simp only [execOp, ho, Instr.alloc, Sem.run_bind, VF hi hz, Result.andThen_ok, newVar, newRow]
  rfl
 unfold xe at h
 split at h
 ·rename_i i N e' hi hu
  split at h
  ·rename_i z hz
   split at h
   ·rename_i hc
    obtain ⟨h0, h1, h2, h3, h4, h5⟩ := hc
    cases h
    have hall : ∀ j, j < N → z.cells.getD j undef = z.cells.getD 0 undef ∧ (z.cells.getD j undef).oneCell' = true := fun j hj => by
     have hm : z.cells.getD j undef ∈ z.cells.toList := by
      simp_all
     have := R9 (List.all_eq_true.1 h5 _ hm)
     grind
    obtain ⟨g1, g2, g3⟩ := hM.allocOwn (c := z.cells) (t := elem) (B := .arr elem 1 N fun _ _ => Ri (z.cells.getD 0 undef)) (o := .arr w.heap.size 0 N 1 N)
     (fun g' hg' => by cases hg'; rfl) (fun _ _ _ _ _ hh => by cases hh; rfl)
     ⟨rfl, rfl, Nat.le_refl _, by simp only [maxLen]; omega, z.cells, heap_alloc_new w _, by omega, fun i j hi hj => by
      obtain rfl : j = 0 := by omega
      have := hall i hi
      simp only [Nat.zero_add, Nat.mul_one, Nat.add_zero]
      exact ⟨by rw [this.1, qf]; exact .const _, this.2⟩⟩
    refine ⟨_, _, _, S, _, hrun hi hz, .inl rfl, g1, hF.mono g3 g2, hD.mono g3, ?_⟩
    have := zE.ap (w := w.alloc (.cells z.cells elem)) (S := S) (ρ := upd ρ σ.nb (.arr w.heap.size 0 N 1 N)) (k := σ.nb) (i := 0) (j := 0) w.heap.size 0 N 1 N (upd_same _ _ _) h0 (Nat.le_refl _)
    omega
   ·split at h
    ·rename_i hall
     cases h
     obtain ⟨g1, g2, g3⟩ := hM.allocOwn (c := z.cells) (t := elem) (B := .box elem z.cells.size (ZC z)) (o := .box w.heap.size)
      (fun g' hg' => by cases hg'; rfl) (fun _ _ _ _ _ hh => by cases hh)
      ⟨z.cells, heap_alloc_new w _, rfl, fun i hi => ⟨.const _, List.all_eq_true.1 hall _ (by
       simp_all)⟩⟩
     exact ⟨_, _, _, S, _, hrun hi hz, .inl rfl, g1, hF.mono g3 g2, hD.mono g3, .np _ (upd_same _ _ _)⟩
    ·cases h
  ·cases h
 ·rename_i i d hn hi hu
  split at h
  ·rename_i z hz
   split at h
   ·rename_i hall
    cases h
    obtain ⟨g1, g2, g3⟩ := hM.allocOwn (c := z.cells) (t := elem) (B := .box elem z.cells.size (ZC z)) (o := .box w.heap.size)
     (fun g' hg' => by cases hg'; rfl) (fun _ _ _ _ _ hh => by cases hh)
     ⟨z.cells, heap_alloc_new w _, rfl, fun i hi => ⟨.const _, List.all_eq_true.1 hall _ (by
      simp_all)⟩⟩
    exact ⟨_, _, _, S, _, hrun hi hz, .inl rfl, g1, hF.mono g3 g2, hD.mono g3, .np _ (upd_same _ _ _)⟩
   ·cases h
  ·cases h
 ·cases h
theorem RP {σ σ' : zh} {t : TypeId} {x r : AV} {ox : Operand} {a : Act} {o : Oper} {e : Operand → Value} (ho : o.op = .box t ox) (hM : Mem E σ.nb σ.bl S ρ w) (hF : Y3 w S ρ σ.n σ.tm a)
  (hD : W2 E.w0.heap.size w S a.defers) (hx : zE w S ρ x (e ox)) (h : Wn σ t x = some (σ', r)) : Eff P E e o a w σ' r := by
 unfold Wn at h
 split at h
 ·rename_i n cs hc
  cases h
  obtain ⟨h1, h2⟩ := xK hx hc
  obtain ⟨S1, ρ1, g1, g2, g3, hn⟩ : ∃ S1 ρ1, Mem E (σ.nb + 1) (upd σ.bl σ.nb (.box t n cs)) S1 ρ1 (w.alloc (.cells (e ox).cells t)) ∧ zG ρ ρ1 ∧
    (∀ b, S b → S1 b ∧ (w.alloc (.cells (e ox).cells t)).heap[b]? = w.heap[b]?) ∧ ρ1 σ.nb = .box w.heap.size := by
   have hle : zG ρ (upd ρ σ.nb (.box w.heap.size)) := fun k => by
    by_cases e : k = σ.nb
    ·subst e; exact .inr (.inr (hM.hi _ (Nat.le_refl _)))
    ·rw [zk _ _ e]; exact .inl (rfl)
   obtain ⟨g1, g2, g3⟩ := hM.allocOwn (c := (e ox).cells) (t := t) (B := .box t n cs) (o := .box w.heap.size)
    (fun g' hg' => by cases hg'; rfl) (fun _ _ _ _ _ hh => by cases hh)
    ⟨(e ox).cells, heap_alloc_new w _, h1, fun i hi => ⟨(h2 i hi).1.mono (fun b hb => ⟨hb, yA w _ (hM.sb b hb)⟩) hle, (h2 i hi).2⟩⟩
   exact ⟨S, _, g1, g2, g3, upd_same _ _ _⟩
  refine ⟨_, _, w.alloc (.cells (e ox).cells t), S1, ρ1, ?_, .inl rfl, g1, hF.mono g3 g2, hD.mono g3, .np w.heap.size hn⟩
  simp only [execOp, ho, Instr.box, Sem.run_bind, newVar, newRow]
  rfl
 ·cases h
theorem xa {t u : TypeId} {g off : Nat} {c : Array Value} {v : Value} (hg : w.heap[g]? = some (.cells c u (0, 0))) (hs : P.cellsOf t = v.cells.size) (hi : (P.info? t).isSome)
  (ho : off + v.cells.size ≤ c.size) (h1 : ∀ i, i < v.cells.size → (v.cells.getD i undef).oneCell' = true) :
  ∃ w', (storeVar t ⟨g, off, none⟩ v).run P w = .ok () w' ∧ (∀ b, b ≠ g → w'.heap[b]? = w.heap[b]?) ∧ w'.heap.size = w.heap.size ∧ w'.os = w.os ∧ w'.tape = w.tape ∧ w'.output = w.output ∧ dn w ≤ dn w' ∧
   ∃ c', w'.heap[g]? = some (.cells c' u (0, 0)) ∧ c'.size = c.size ∧ ∀ i, c'.getD i undef = if off ≤ i ∧ i < off + v.cells.size then v.cells.getD (i - off) undef else c.getD i undef := by
 obtain ⟨i, hi⟩ := Option.isSome_iff_exists.1 hi
 have hst := run_storeCells_at P g off u v.cells.toList 0 c w hg (by simpa using ho) (fun x hx => by
  obtain ⟨j, hj, rfl⟩ := List.getElem_of_mem hx
  simp_all)
 obtain ⟨cn, hcn⟩ : ∃ cn : Array Value, cn = (c.toList.take (off + 0) ++ v.cells.toList ++ c.toList.drop (off + 0 + v.cells.toList.length)).toArray := ⟨_, rfl⟩
 rw [← hcn] at hst
 refine ⟨w.setRow g cn, ?_, fun b hb => setRow_other w g b cn hb, setRow_size _ _ _, rfl, rfl, rfl, Nat.le_refl _, cn, setRow_heap w g c cn u (0, 0) hg, ?_, fun j => ?_⟩
 ·unfold storeVar
  simp only [Sem.run_bind, run_sizeOf w hi, Result.andThen_ok, hs, ne_eq, not_true_eq_false, if_false]
  exact hst
 ·grind
 ·rw [hcn]
  simp only [Array.getD_eq_getD_getElem?, List.getElem?_toArray, Nat.add_zero, Array.length_toList]
  rw [List.append_assoc, List.getElem?_append]
  grind
theorem Tr {σ σ' : zh} {t : TypeId} {p x : AV} {op ox : Operand} {a : Act} {o : Oper} {e : Operand → Value} (ho : o.op = .store t op ox) (hM : Mem E σ.nb σ.bl S ρ w) (hF : Y3 w S ρ σ.n σ.tm a)
  (hD : W2 E.w0.heap.size w S a.defers) (hp : zE w S ρ p (e op)) (hx : zE w S ρ x (e ox)) (h : Tu P σ t p x = some σ') : Eff P E e o a w σ' .junk := by
 obtain ⟨pv, hpv⟩ : ∃ pv, e op = pv := ⟨_, rfl⟩
 rw [hpv] at hp
 unfold Tu at h
 split at h
 ·rename_i m cs hc
  obtain ⟨h1, h2⟩ := xK hx hc
  split at h
  ·rename_i hcc
   obtain ⟨c1, c2⟩ := hcc
   have fin : ∀ {g off : Nat} {w' : World}, e op = .pointer (some ⟨g, off, none⟩) → (storeVar t ⟨g, off, none⟩ (e ox)).run P w = .ok () w' → (execOp e o).run P w = .ok .skip w' := by
    intro g off w' hv hr
    simp only [execOp, ho, Sem.run_bind, Instr.storeAt, hv, Instr.sureAddr, Sem.run_pure, Result.andThen_ok, hr]
   split at h
   ·rename_i k off
    split at h
    ·rename_i u n cells hB
     split at h
     ·rename_i hlt
      cases h
      have hbk := hM.at k
      have hk : k < σ.nb := by
       by_cases hk : k < σ.nb
       ·exact hk
       ·exfalso
        cases hp with
        | np g hk' => rw [hM.hi k (by omega)] at hk'; cases hk'
        | dnp hd hsh => rw [hM.hi k (by omega)] at hd; cases hd
      cases hp with
      | dnp hd hsh => exact (hM.box (by rw [hB]; rfl) hd).elim
      | np g hk' =>
       have hbk := hbk.resolve_left (by rw [hk']; simp)
       rw [hB, hk'] at hbk
       obtain ⟨c, b1, b2, b3⟩ := hbk
       obtain ⟨w', r1, r2, r3, r4, r5, r6, rd, c', r7, r8, r9⟩ := xa (P := P) (t := t) (v := e ox) (off := off) b1 (c1.trans h1.symm) c2 (by omega) (by rw [h1]; exact fun i hi => (h2 i hi).2)
       have hS : ∀ b, S b → S b ∧ w'.heap[b]? = w.heap[b]? := fun b hb => ⟨hb, r2 b fun e' => (hM.own k g (by rw [hk']; rfl)).1 (e' ▸ hb)⟩
       obtain ⟨m1, m2⟩ := hM.write (k := k) (g := g) (B := .box u n fun i => if off ≤ i ∧ i < off + m then cs (i - off) else cells i) hk (by rw [hk']; rfl) r2 r3 r4 r5 r6 rd (by
        rw [hk']
        refine ⟨c', r7, by omega, fun i hi => ?_⟩
        rw [r9 i, h1]
        by_cases hin : off ≤ i ∧ i < off + m
        ·rw [if_pos hin]; dsimp only; rw [if_pos hin]
         exact ⟨(h2 _ (by omega)).1.mono hS (zG.refl _), (h2 _ (by omega)).2⟩
        ·rw [if_neg hin]; dsimp only; rw [if_neg hin]
         exact ⟨(b3 i hi).1.mono hS (zG.refl _), (b3 i hi).2⟩)
       exact ⟨_, undef, w', S, ρ, fin hpv r1, .inr ⟨rfl, rfl⟩, m1, hF.mono m2 (zG.refl _), hD.mono m2, .junk _⟩
     ·cases h
    ·cases h
   ·rename_i k i j
    split at h
    ·rename_i u sz len els hB
     split at h
     ·rename_i hlt
      obtain ⟨hlt, hown⟩ := hlt
      cases h
      have hbk := hM.at k
      have hk : k < σ.nb := by
       by_cases hk : k < σ.nb
       ·exact hk
       ·exfalso
        cases hp with
        | ap g base cap sz L hk' => rw [hM.hi k (by omega)] at hk'; cases hk'
        | dap hd hsh => rw [hM.hi k (by omega)] at hd; cases hd
      cases hp with
      | dap hd hsh => exact (hM.arr (by rw [hB]; rfl) hd).elim
      | ap g base cap sz' L hk' hi' hcap =>
       have hbk := hbk.resolve_left (by rw [hk']; simp)
       rw [hB, hk'] at hbk
       obtain ⟨e1, e2, b1, b2, c, b3, b4, b5⟩ := hbk
       subst e1; subst e2
       have hb : (base + i) * sz' + sz' ≤ (base + cap) * sz' := by
        rw [← Nat.succ_mul]; exact Nat.mul_le_mul_right _ (by omega)
       obtain ⟨w', r1, r2, r3, r4, r5, r6, rd, c', r7, r8, r9⟩ := xa (P := P) (t := t) (v := e ox) (off := (base + i) * sz' + j) b3 (c1.trans h1.symm) c2 (by omega) (by rw [h1]; exact fun i hi => (h2 i hi).2)
       have hS : ∀ b, S b → S b ∧ w'.heap[b]? = w.heap[b]? := fun b hb => ⟨hb, r2 b fun e' => (hM.own k g (by rw [hk']; rfl)).1 (e' ▸ hb)⟩
       obtain ⟨m1, m2⟩ := hM.write (k := k) (g := g) (B := .arr u sz' L fun i' j' => if i' = i ∧ j ≤ j' ∧ j' < j + m then cs (j' - j) else els i' j') hk (by rw [hk']; rfl) r2 r3 r4 r5 r6 rd (by
        rw [hk']
        refine ⟨rfl, rfl, b1, b2, c', r7, by omega, fun i' j' hi2 hj2 => ?_⟩
        rw [r9, h1]
        by_cases hin : i' = i ∧ j ≤ j' ∧ j' < j + m
        ·obtain ⟨rfl, q1, q2⟩ := hin
         rw [if_pos (by omega)]; dsimp only; rw [if_pos ⟨rfl, q1, q2⟩]
         rw [show (base + i') * sz' + j' - ((base + i') * sz' + j) = j' - j by omega]
         have hf : (cs (j' - j)).hasOwn = false := by simpa using X9 hown (j' - j) (by omega)
         exact ⟨((h2 _ (by omega)).1.free hf).mono hS (zG.refl _), (h2 _ (by omega)).2⟩
        ·have hne : ¬ ((base + i) * sz' + j ≤ (base + i') * sz' + j' ∧ (base + i') * sz' + j' < (base + i) * sz' + j + m) := by
          rintro ⟨q1, q2⟩
          apply hin
          rcases Nat.lt_trichotomy i' i with hc3 | hc3 | hc3
          ·have : (base + i') * sz' + sz' ≤ (base + i) * sz' := by
            rw [← Nat.succ_mul]; exact Nat.mul_le_mul_right _ (by omega)
           omega
          ·grind
          ·have : (base + i) * sz' + sz' ≤ (base + i') * sz' := by
            rw [← Nat.succ_mul]; exact Nat.mul_le_mul_right _ (by omega)
           omega
         rw [if_neg hne]; dsimp only; rw [if_neg hin]
         exact ⟨(b5 i' j' hi2 hj2).1.mono hS (zG.refl _), (b5 i' j' hi2 hj2).2⟩)
       exact ⟨_, undef, w', S, ρ, fin hpv r1, .inr ⟨rfl, rfl⟩, m1, hF.mono m2 (zG.refl _), hD.mono m2, .junk _⟩
     ·split at h
      ·rename_i hlt
       obtain ⟨hs1, hj0, hlen, hown⟩ := hlt
       subst hs1; subst hj0
       cases h
       have hbk := hM.at k
       have hk : k < σ.nb := by
        by_cases hk : k < σ.nb
        ·exact hk
        ·exfalso
         cases hp with
         | ap g base cap sz L hk' => rw [hM.hi k (by omega)] at hk'; cases hk'
         | dap hd hsh => rw [hM.hi k (by omega)] at hd; cases hd
       cases hp with
       | dap hd hsh => exact (hM.arr (by rw [hB]; rfl) hd).elim
       | ap g base cap sz' L hk' hi' hcap =>
        have hbk := hbk.resolve_left (by rw [hk']; simp)
        rw [hB, hk'] at hbk
        obtain ⟨e1, e2, b1, b2, c, b3, b4, b5⟩ := hbk
        subst e1; subst e2
        simp only [Nat.mul_one, Nat.add_zero] at b4 b5 hpv ⊢
        obtain ⟨w', r1, r2, r3, r4, r5, r6, rd, c', r7, r8, r9⟩ := xa (P := P) (t := t) (v := e ox) (off := base + i) b3 (c1.trans h1.symm) c2 (by omega) (by rw [h1]; exact fun i hi => (h2 i hi).2)
        have hS : ∀ b, S b → S b ∧ w'.heap[b]? = w.heap[b]? := fun b hb => ⟨hb, r2 b fun e' => (hM.own k g (by rw [hk']; rfl)).1 (e' ▸ hb)⟩
        obtain ⟨m1, m2⟩ := hM.write (k := k) (g := g) (B := .arr u 1 L fun i' j' => if i ≤ i' ∧ i' < i + m then cs (i' - i) else els i' j') hk (by rw [hk']; rfl) r2 r3 r4 r5 r6 rd (by
         rw [hk']
         refine ⟨rfl, rfl, b1, b2, c', r7, by omega, fun i' j' hi2 hj2 => ?_⟩
         obtain rfl : j' = 0 := by omega
         simp only [Nat.mul_one, Nat.add_zero]
         rw [r9, h1]
         by_cases hin : i ≤ i' ∧ i' < i + m
         ·rw [if_pos hin, if_pos (show base + i ≤ base + i' ∧ base + i' < base + i + m by omega)]
          rw [show base + i' - (base + i) = i' - i by omega]
          have hf : (cs (i' - i)).hasOwn = false := by simpa using X9 hown (i' - i) (by omega)
          exact ⟨((h2 _ (by omega)).1.free hf).mono hS (zG.refl _), (h2 _ (by omega)).2⟩
         ·rw [if_neg hin, if_neg (show ¬ (base + i ≤ base + i' ∧ base + i' < base + i + m) by omega)]
          exact ⟨(b5 i' 0 hi2 hj2).1.mono hS (zG.refl _), (b5 i' 0 hi2 hj2).2⟩)
        exact ⟨_, undef, w', S, ρ, fin hpv r1, .inr ⟨rfl, rfl⟩, m1, hF.mono m2 (zG.refl _), hD.mono m2, .junk _⟩
      ·cases h
    ·cases h
   ·cases h
  ·cases h
 ·cases h
end
end Go.Sx
