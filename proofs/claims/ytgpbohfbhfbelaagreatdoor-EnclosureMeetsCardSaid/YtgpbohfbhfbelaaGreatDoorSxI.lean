/- The operations that make or write memory of the activation's own. -/
import Derived.Test.YtgpbohfbhfbelaaGreatDoorSxG
import Derived.Maps.AppendAt
set_option linter.unusedSimpArgs false
set_option linter.unusedVariables false
namespace Go.Sx
open Go Go.RowKit
def MC : OB → Bool
 | .lrec .. => true
 | _ => false
def zo.add (σ : zo) (B : OB) : zo := { σ with nb := σ.nb + 1, bl := upd σ.bl σ.nb B }
def xi (P : Program) (σ : zo) (elem : TypeId) : Option (zo × AV) :=
 match P.info? elem, P.underlying elem with
 | some i, some (.array N e) =>
  match i.zero with
  | some z =>
   if 0 < N ∧ z.cells.size = N ∧ P.cellsOf e = 1 ∧ (P.info? e).isSome ∧ N ≤ 16777216 ∧ z.cells.toList.all (R3 (z.cells.getD 0 undef)) then
    some (σ.add (.arr elem 1 N fun _ _ => QS (z.cells.getD 0 undef)), .ap σ.nb 0 0)
   else if z.cells.toList.all (·.oneCell') then some (σ.add (.box elem z.cells.size (ZD z)), .np σ.nb 0) else none
  | none => none
 | some i, some _ =>
  match i.zero with
  | some z => if z.cells.toList.all (·.oneCell') then some (σ.add (.box elem z.cells.size (ZD z)), .np σ.nb 0) else none
  | none => none
 | _, _ => none
def Wh (σ : zo) (t : TypeId) (x : AV) : Option (zo × AV) :=
 match vW x with
 | some (n, cs) => some (σ.add (.box t n cs), .np σ.nb 0)
 | none => none
def XR (P : Program) (σ : zo) (t : TypeId) : Option (zo × AV) :=
 match qf P t with
 | some _ => some (σ.add (.mp [] fun _ _ => .v (.slice none 0 0)), .mp σ.nb)
 | none => none
def TD (ks : List (Int × Int)) (a b : Int) : Bool := ks.any fun p => a == p.1 && b == p.2
def Vs (ks : List (Int × Int)) (a b : Int) : Nat := ks.findIdx fun p => a == p.1 && b == p.2
def qK (ks : List (Int × Int)) (a b : Int) : List (Int × Int) := bif TD ks a b then ks else ks ++ [(a, b)]
def fG (f : Int → Int → AV) (a b : Int) (x : AV) (p q : Int) : AV := bif p == a && q == b then x else f p q
def xh (P : Program) (σ : zo) (t : TypeId) (x : AV) : Option zo :=
 match x, P.underlying t with
 | .ns k off len, some (.slice e) =>
  match σ.bl k, P.info? e with
  | .arr u sz L els, some i =>
   match i.zero with
   | some z =>
    if z.cells.size = sz ∧ z.cells.toList.all (·.oneCell') = true then
     some { σ with bl := upd σ.bl k (.arr u sz L fun r c => bif Nat.ble off r && Nat.blt r (off + len) then ZD z c else els r c) }
    else none
   | none => none
  | _, _ => none
 | _, _ => none
def Yh (P : Program) (σ : zo) (t : TypeId) (m k x : AV) : Option (List zn × zo) :=
 match qf P t, m, k with
 | some kt, .mp i, .agg 2 cs =>
  match σ.bl i, cs 0, cs 1 with
  | .mp ks f, .v (.int .i64 a), .v (.int .i64 b) => some ([.d (P.stoodInHeld kt = false)], { σ with bl := upd σ.bl i (.mp (qK ks a b) (fG f a b x)) })
  | _, _, _ => none
 | _, _, _ => none
def xH (P : Program) (σ : zo) (t : TypeId) (m k : AV) : Option (List zn × zo × AV) :=
 match qf P t, m, k with
 | some kt, .mp i, .agg 2 cs =>
  match σ.bl i, cs 0, cs 1 with
  | .mp ks f, .v (.int .i64 a), .v (.int .i64 b) => some ([.d (P.stoodInHeld kt = false)], { σ with bl := upd σ.bl i (.mp (qK ks a b) f) }, .tup 2 (zt [f a b, .v (.int .i64 (Vs ks a b))]))
  | _, _, _ => none
 | _, _, _ => none
def Z8 (σ : zo) (m s x : AV) : Option (List zn × zo) :=
 match m, s with
 | .mp i, .v (.int .i64 n) =>
  match σ.bl i with
  | .mp ks f => some ([.d (0 ≤ n ∧ n < (ks.length : Int))], { σ with bl := upd σ.bl i (.mp ks (fG f (ks.getD n.toNat (0, 0)).1 (ks.getD n.toNat (0, 0)).2 x)) })
  | _ => none
 | _, _ => none
def TH (P : Program) (σ : zo) (t : TypeId) (p x : AV) : Option zo :=
 match vW x with
 | some (m, cs) =>
  if P.cellsOf t = m ∧ (P.info? t).isSome then
   match p with
   | .np k off =>
    match σ.bl k with
    | .box u n cells => if off + m ≤ n then some { σ with bl := upd σ.bl k (.box u n fun i => if off ≤ i ∧ i < off + m then cs (i - off) else cells i) } else none
    | _ => none
   | .ap k i j =>
    match σ.bl k with
    | .arr u sz len els =>
     if j + m ≤ sz ∧ xm (fun i => !(cs i).hasOwn) m then
      some { σ with bl := upd σ.bl k (.arr u sz len fun i' j' => if i' = i ∧ j ≤ j' ∧ j' < j + m then cs (j' - j) else els i' j') }
     else if sz = 1 ∧ j = 0 ∧ i + m ≤ len ∧ xm (fun i => !(cs i).hasOwn) m then
      some { σ with bl := upd σ.bl k (.arr u sz len fun i' j' => if i ≤ i' ∧ i' < i + m then cs (i' - i) else els i' j') }
     else none
    | _ => none
   | _ => none
  else none
 | none => none
section
variable {P : Program} {E : Env} {nb : Nat} {bl : Nat → OB} {S : Nat → Prop} {ρ : Nat → Own} {w : World}
theorem Mem.lrec (hM : Mem E nb bl S ρ w) {k : Nat} (h : MC (bl k) = true) (h0 : ρ k = .dead) : False := by
 have hb := (hM.at k).resolve_left (by rw [h0]; simp)
 rw [h0] at hb
 cases hB : bl k <;> rw [hB] at hb h <;> first | exact hb.elim | cases h
def Eff (P : Program) (E : Env) (e : Operand → Value) (o : Oper) (a : Act) (w : World) (σ' : zo) (r : AV) : Prop :=
 ∃ nx v w' S' ρ', (execOp e o).run P w = .ok nx w' ∧ (nx = .value v ∨ (nx = .skip ∧ v = undef)) ∧ Mem E σ'.nb σ'.bl S' ρ' w' ∧ Yq w' S' ρ' σ'.n σ'.tm a ∧
  wi E.w0.heap.size w' S' a.defers ∧ zF w' S' ρ' r v
theorem WH {t : TypeId} {i : TypeInfo} {z : Value} (hi : P.info? t = some i) (hz : i.zero = some z) (w : World) : (zeroValue t).run P w = .ok z w := by
 simp [zeroValue, typeInfo, hi, hz]
theorem Tk {σ σ' : zo} {elem : TypeId} {r : AV} {a : Act} {o : Oper} {e : Operand → Value} (ho : o.op = .alloc elem) (hM : Mem E σ.nb σ.bl S ρ w) (hF : Yq w S ρ σ.n σ.tm a) (hD : wi E.w0.heap.size w S a.defers)
  (h : xi P σ elem = some (σ', r)) : Eff P E e o a w σ' r := by
 have hrun : ∀ {i : TypeInfo} {z : Value}, P.info? elem = some i → i.zero = some z → (execOp e o).run P w = .ok (.value (.pointer (some ⟨w.heap.size, 0, none⟩))) (w.alloc (.cells z.cells elem)) := by
  intro i z hi hz
  simp only [execOp, ho, Instr.alloc, Sem.run_bind, WH hi hz, Result.andThen_ok, newVar, newRow]
  rfl
 unfold xi at h
 split at h
 ·rename_i i N e' hi hu
  split at h
  ·rename_i z hz
   split at h
   ·rename_i hc
    obtain ⟨h0, h1, h2, h3, h4, h5⟩ := hc
    cases h
    have hall : ∀ j, j < N → z.cells.getD j undef = z.cells.getD 0 undef ∧ (z.cells.getD j undef).oneCell' = true := fun j hj => by
     have hm : z.cells.getD j undef ∈ z.cells.toList := by
      simp_all
     have := Qr (List.all_eq_true.1 h5 _ hm)
     grind
    obtain ⟨g1, g2, g3⟩ := hM.allocOwn (c := z.cells) (t := elem) (B := .arr elem 1 N fun _ _ => QS (z.cells.getD 0 undef)) (o := .arr w.heap.size 0 N 1 N)
     (fun g' hg' => by cases hg'; rfl) (fun _ _ _ _ _ hh => by cases hh; rfl)
     ⟨rfl, rfl, Nat.le_refl _, by simp only [maxLen]; omega, z.cells, heap_alloc_new w _, by omega, fun i j hi hj => by
      obtain rfl : j = 0 := by omega
      have := hall i hi
      simp only [Nat.zero_add, Nat.mul_one, Nat.add_zero]
      exact ⟨by rw [this.1, qR]; exact .const _, this.2⟩⟩
    refine ⟨_, _, _, S, _, hrun hi hz, .inl rfl, g1, hF.mono g3 g2, hD.mono g3, ?_⟩
    have := zF.ap (w := w.alloc (.cells z.cells elem)) (S := S) (ρ := upd ρ σ.nb (.arr w.heap.size 0 N 1 N)) (k := σ.nb) (i := 0) (j := 0) w.heap.size 0 N 1 N (upd_same _ _ _) h0 (Nat.le_refl _)
    omega
   ·split at h
    ·rename_i hall
     cases h
     obtain ⟨g1, g2, g3⟩ := hM.allocOwn (c := z.cells) (t := elem) (B := .box elem z.cells.size (ZD z)) (o := .box w.heap.size)
      (fun g' hg' => by cases hg'; rfl) (fun _ _ _ _ _ hh => by cases hh)
      ⟨z.cells, heap_alloc_new w _, rfl, fun i hi => ⟨.const _, List.all_eq_true.1 hall _ (by
       simp_all)⟩⟩
     exact ⟨_, _, _, S, _, hrun hi hz, .inl rfl, g1, hF.mono g3 g2, hD.mono g3, .np _ (upd_same _ _ _)⟩
    ·cases h
  ·cases h
 ·rename_i i d hn hi hu
  split at h
  ·rename_i z hz
   split at h
   ·rename_i hall
    cases h
    obtain ⟨g1, g2, g3⟩ := hM.allocOwn (c := z.cells) (t := elem) (B := .box elem z.cells.size (ZD z)) (o := .box w.heap.size)
     (fun g' hg' => by cases hg'; rfl) (fun _ _ _ _ _ hh => by cases hh)
     ⟨z.cells, heap_alloc_new w _, rfl, fun i hi => ⟨.const _, List.all_eq_true.1 hall _ (by
      simp_all)⟩⟩
    exact ⟨_, _, _, S, _, hrun hi hz, .inl rfl, g1, hF.mono g3 g2, hD.mono g3, .np _ (upd_same _ _ _)⟩
   ·cases h
  ·cases h
 ·cases h
theorem Sg {σ σ' : zo} {t : TypeId} {x r : AV} {ox : Operand} {a : Act} {o : Oper} {e : Operand → Value} (ho : o.op = .box t ox) (hM : Mem E σ.nb σ.bl S ρ w) (hF : Yq w S ρ σ.n σ.tm a)
  (hD : wi E.w0.heap.size w S a.defers) (hx : zF w S ρ x (e ox)) (h : Wh σ t x = some (σ', r)) : Eff P E e o a w σ' r := by
 unfold Wh at h
 split at h
 ·rename_i n cs hc
  cases h
  obtain ⟨h1, h2⟩ := xQ hx hc
  obtain ⟨S1, ρ1, g1, g2, g3, hn⟩ : ∃ S1 ρ1, Mem E (σ.nb + 1) (upd σ.bl σ.nb (.box t n cs)) S1 ρ1 (w.alloc (.cells (e ox).cells t)) ∧ zf ρ ρ1 ∧
    (∀ b, S b → S1 b ∧ (w.alloc (.cells (e ox).cells t)).heap[b]? = w.heap[b]?) ∧ ρ1 σ.nb = .box w.heap.size := by
   have hle : zf ρ (upd ρ σ.nb (.box w.heap.size)) := fun k => by
    by_cases e : k = σ.nb
    ·subst e; exact .inr (.inr (hM.hi _ (Nat.le_refl _)))
    ·rw [zM _ _ e]; exact .inl (rfl)
   obtain ⟨g1, g2, g3⟩ := hM.allocOwn (c := (e ox).cells) (t := t) (B := .box t n cs) (o := .box w.heap.size)
    (fun g' hg' => by cases hg'; rfl) (fun _ _ _ _ _ hh => by cases hh)
    ⟨(e ox).cells, heap_alloc_new w _, h1, fun i hi => ⟨(h2 i hi).1.mono (fun b hb => ⟨hb, yy w _ (hM.sb b hb)⟩) hle, (h2 i hi).2⟩⟩
   exact ⟨S, _, g1, g2, g3, upd_same _ _ _⟩
  refine ⟨_, _, w.alloc (.cells (e ox).cells t), S1, ρ1, ?_, .inl rfl, g1, hF.mono g3 g2, hD.mono g3, .np w.heap.size hn⟩
  simp only [execOp, ho, Instr.box, Sem.run_bind, newVar, newRow]
  rfl
 ·cases h
theorem xF {t u : TypeId} {g off : Nat} {c : Array Value} {v : Value} (hg : w.heap[g]? = some (.cells c u (0, 0))) (hs : P.cellsOf t = v.cells.size) (hi : (P.info? t).isSome)
  (ho : off + v.cells.size ≤ c.size) (h1 : ∀ i, i < v.cells.size → (v.cells.getD i undef).oneCell' = true) :
  ∃ w', (storeVar t ⟨g, off, none⟩ v).run P w = .ok () w' ∧ (∀ b, b ≠ g → w'.heap[b]? = w.heap[b]?) ∧ w'.heap.size = w.heap.size ∧ w'.os = w.os ∧ w'.tape = w.tape ∧ w'.output = w.output ∧ dn w ≤ dn w' ∧
   ∃ c', w'.heap[g]? = some (.cells c' u (0, 0)) ∧ c'.size = c.size ∧ ∀ i, c'.getD i undef = if off ≤ i ∧ i < off + v.cells.size then v.cells.getD (i - off) undef else c.getD i undef := by
 obtain ⟨i, hi⟩ := Option.isSome_iff_exists.1 hi
 have hst := run_storeCells_at P g off u v.cells.toList 0 c w hg (by simpa using ho) (fun x hx => by
  obtain ⟨j, hj, rfl⟩ := List.getElem_of_mem hx
  simp_all)
 obtain ⟨cn, hcn⟩ : ∃ cn : Array Value, cn = (c.toList.take (off + 0) ++ v.cells.toList ++ c.toList.drop (off + 0 + v.cells.toList.length)).toArray := ⟨_, rfl⟩
 rw [← hcn] at hst
 refine ⟨w.setRow g cn, ?_, fun b hb => setRow_other w g b cn hb, setRow_size _ _ _, rfl, rfl, rfl, Nat.le_refl _, cn, setRow_heap w g c cn u (0, 0) hg, ?_, fun j => ?_⟩
 ·unfold storeVar
  simp only [Sem.run_bind, run_sizeOf w hi, Result.andThen_ok, hs, ne_eq, not_true_eq_false, if_false]
  exact hst
 ·grind
 ·rw [hcn]
  simp only [Array.getD_eq_getD_getElem?, List.getElem?_toArray, Nat.add_zero, Array.length_toList]
  rw [List.append_assoc, List.getElem?_append]
  grind
theorem UE {σ σ' : zo} {t : TypeId} {p x : AV} {op ox : Operand} {a : Act} {o : Oper} {e : Operand → Value} (ho : o.op = .store t op ox) (hM : Mem E σ.nb σ.bl S ρ w) (hF : Yq w S ρ σ.n σ.tm a)
  (hD : wi E.w0.heap.size w S a.defers) (hp : zF w S ρ p (e op)) (hx : zF w S ρ x (e ox)) (h : TH P σ t p x = some σ') : Eff P E e o a w σ' .junk := by
 obtain ⟨pv, hpv⟩ : ∃ pv, e op = pv := ⟨_, rfl⟩
 rw [hpv] at hp
 unfold TH at h
 split at h
 ·rename_i m cs hc
  obtain ⟨h1, h2⟩ := xQ hx hc
  split at h
  ·rename_i hcc
   obtain ⟨c1, c2⟩ := hcc
   have fin : ∀ {g off : Nat} {w' : World}, e op = .pointer (some ⟨g, off, none⟩) → (storeVar t ⟨g, off, none⟩ (e ox)).run P w = .ok () w' → (execOp e o).run P w = .ok .skip w' := by
    intro g off w' hv hr
    simp only [execOp, ho, Sem.run_bind, Instr.storeAt, hv, Instr.sureAddr, Sem.run_pure, Result.andThen_ok, hr]
   split at h
   ·rename_i k off
    split at h
    ·rename_i u n cells hB
     split at h
     ·rename_i hlt
      cases h
      have hbk := hM.at k
      have hk : k < σ.nb := by
       by_cases hk : k < σ.nb
       ·exact hk
       ·exfalso
        cases hp with
        | np g hk' => rw [hM.hi k (by omega)] at hk'; cases hk'
        | dnp hd hsh => rw [hM.hi k (by omega)] at hd; cases hd
      cases hp with
      | dnp hd hsh => exact (hM.box (by rw [hB]; rfl) hd).elim
      | np g hk' =>
       have hbk := hbk.resolve_left (by rw [hk']; simp)
       rw [hB, hk'] at hbk
       obtain ⟨c, b1, b2, b3⟩ := hbk
       obtain ⟨w', r1, r2, r3, r4, r5, r6, rd, c', r7, r8, r9⟩ := xF (P := P) (t := t) (v := e ox) (off := off) b1 (c1.trans h1.symm) c2 (by omega) (by rw [h1]; exact fun i hi => (h2 i hi).2)
       have hS : ∀ b, S b → S b ∧ w'.heap[b]? = w.heap[b]? := fun b hb => ⟨hb, r2 b fun e' => (hM.own k g (by rw [hk']; rfl)).1 (e' ▸ hb)⟩
       obtain ⟨m1, m2⟩ := hM.write (k := k) (g := g) (B := .box u n fun i => if off ≤ i ∧ i < off + m then cs (i - off) else cells i) hk (by rw [hk']; rfl) r2 r3 r4 r5 r6 rd (by
        rw [hk']
        refine ⟨c', r7, by omega, fun i hi => ?_⟩
        rw [r9 i, h1]
        by_cases hin : off ≤ i ∧ i < off + m
        ·rw [if_pos hin]; dsimp only; rw [if_pos hin]
         exact ⟨(h2 _ (by omega)).1.mono hS (zf.refl _), (h2 _ (by omega)).2⟩
        ·rw [if_neg hin]; dsimp only; rw [if_neg hin]
         exact ⟨(b3 i hi).1.mono hS (zf.refl _), (b3 i hi).2⟩)
       exact ⟨_, undef, w', S, ρ, fin hpv r1, .inr ⟨rfl, rfl⟩, m1, hF.mono m2 (zf.refl _), hD.mono m2, .junk _⟩
     ·cases h
    ·cases h
   ·rename_i k i j
    split at h
    ·rename_i u sz len els hB
     split at h
     ·rename_i hlt
      obtain ⟨hlt, hown⟩ := hlt
      cases h
      have hbk := hM.at k
      have hk : k < σ.nb := by
       by_cases hk : k < σ.nb
       ·exact hk
       ·exfalso
        cases hp with
        | ap g base cap sz L hk' => rw [hM.hi k (by omega)] at hk'; cases hk'
        | dap hd hsh => rw [hM.hi k (by omega)] at hd; cases hd
      cases hp with
      | dap hd hsh => exact (hM.arr (by rw [hB]; rfl) hd).elim
      | ap g base cap sz' L hk' hi' hcap =>
       have hbk := hbk.resolve_left (by rw [hk']; simp)
       rw [hB, hk'] at hbk
       obtain ⟨e1, e2, b1, b2, c, b3, b4, b5⟩ := hbk
       subst e1; subst e2
       have hb : (base + i) * sz' + sz' ≤ (base + cap) * sz' := by
        rw [← Nat.succ_mul]; exact Nat.mul_le_mul_right _ (by omega)
       obtain ⟨w', r1, r2, r3, r4, r5, r6, rd, c', r7, r8, r9⟩ := xF (P := P) (t := t) (v := e ox) (off := (base + i) * sz' + j) b3 (c1.trans h1.symm) c2 (by omega) (by rw [h1]; exact fun i hi => (h2 i hi).2)
       have hS : ∀ b, S b → S b ∧ w'.heap[b]? = w.heap[b]? := fun b hb => ⟨hb, r2 b fun e' => (hM.own k g (by rw [hk']; rfl)).1 (e' ▸ hb)⟩
       obtain ⟨m1, m2⟩ := hM.write (k := k) (g := g) (B := .arr u sz' L fun i' j' => if i' = i ∧ j ≤ j' ∧ j' < j + m then cs (j' - j) else els i' j') hk (by rw [hk']; rfl) r2 r3 r4 r5 r6 rd (by
        rw [hk']
        refine ⟨rfl, rfl, b1, b2, c', r7, by omega, fun i' j' hi2 hj2 => ?_⟩
        rw [r9, h1]
        by_cases hin : i' = i ∧ j ≤ j' ∧ j' < j + m
        ·obtain ⟨rfl, q1, q2⟩ := hin
         rw [if_pos (by omega)]; dsimp only; rw [if_pos ⟨rfl, q1, q2⟩]
         rw [show (base + i') * sz' + j' - ((base + i') * sz' + j) = j' - j by omega]
         have hf : (cs (j' - j)).hasOwn = false := by simpa using ZK hown (j' - j) (by omega)
         exact ⟨((h2 _ (by omega)).1.free hf).mono hS (zf.refl _), (h2 _ (by omega)).2⟩
        ·have hne : ¬ ((base + i) * sz' + j ≤ (base + i') * sz' + j' ∧ (base + i') * sz' + j' < (base + i) * sz' + j + m) := by
          rintro ⟨q1, q2⟩
          apply hin
          rcases Nat.lt_trichotomy i' i with hc3 | hc3 | hc3
          ·have : (base + i') * sz' + sz' ≤ (base + i) * sz' := by
            rw [← Nat.succ_mul]; exact Nat.mul_le_mul_right _ (by omega)
           omega
          ·grind
          ·have : (base + i) * sz' + sz' ≤ (base + i') * sz' := by
            rw [← Nat.succ_mul]; exact Nat.mul_le_mul_right _ (by omega)
           omega
         rw [if_neg hne]; dsimp only; rw [if_neg hin]
         exact ⟨(b5 i' j' hi2 hj2).1.mono hS (zf.refl _), (b5 i' j' hi2 hj2).2⟩)
       exact ⟨_, undef, w', S, ρ, fin hpv r1, .inr ⟨rfl, rfl⟩, m1, hF.mono m2 (zf.refl _), hD.mono m2, .junk _⟩
     ·split at h
      ·rename_i hlt
       obtain ⟨hs1, hj0, hlen, hown⟩ := hlt
       subst hs1; subst hj0
       cases h
       have hbk := hM.at k
       have hk : k < σ.nb := by
        by_cases hk : k < σ.nb
        ·exact hk
        ·exfalso
         cases hp with
         | ap g base cap sz L hk' => rw [hM.hi k (by omega)] at hk'; cases hk'
         | dap hd hsh => rw [hM.hi k (by omega)] at hd; cases hd
       cases hp with
       | dap hd hsh => exact (hM.arr (by rw [hB]; rfl) hd).elim
       | ap g base cap sz' L hk' hi' hcap =>
        have hbk := hbk.resolve_left (by rw [hk']; simp)
        rw [hB, hk'] at hbk
        obtain ⟨e1, e2, b1, b2, c, b3, b4, b5⟩ := hbk
        subst e1; subst e2
        simp only [Nat.mul_one, Nat.add_zero] at b4 b5 hpv ⊢
        obtain ⟨w', r1, r2, r3, r4, r5, r6, rd, c', r7, r8, r9⟩ := xF (P := P) (t := t) (v := e ox) (off := base + i) b3 (c1.trans h1.symm) c2 (by omega) (by rw [h1]; exact fun i hi => (h2 i hi).2)
        have hS : ∀ b, S b → S b ∧ w'.heap[b]? = w.heap[b]? := fun b hb => ⟨hb, r2 b fun e' => (hM.own k g (by rw [hk']; rfl)).1 (e' ▸ hb)⟩
        obtain ⟨m1, m2⟩ := hM.write (k := k) (g := g) (B := .arr u 1 L fun i' j' => if i ≤ i' ∧ i' < i + m then cs (i' - i) else els i' j') hk (by rw [hk']; rfl) r2 r3 r4 r5 r6 rd (by
         rw [hk']
         refine ⟨rfl, rfl, b1, b2, c', r7, by omega, fun i' j' hi2 hj2 => ?_⟩
         obtain rfl : j' = 0 := by omega
         simp only [Nat.mul_one, Nat.add_zero]
         rw [r9, h1]
         by_cases hin : i ≤ i' ∧ i' < i + m
         ·rw [if_pos hin, if_pos (show base + i ≤ base + i' ∧ base + i' < base + i + m by omega)]
          rw [show base + i' - (base + i) = i' - i by omega]
          have hf : (cs (i' - i)).hasOwn = false := by simpa using ZK hown (i' - i) (by omega)
          exact ⟨((h2 _ (by omega)).1.free hf).mono hS (zf.refl _), (h2 _ (by omega)).2⟩
         ·rw [if_neg hin, if_neg (show ¬ (base + i ≤ base + i' ∧ base + i' < base + i + m) by omega)]
          exact ⟨(b5 i' 0 hi2 hj2).1.mono hS (zf.refl _), (b5 i' 0 hi2 hj2).2⟩)
        exact ⟨_, undef, w', S, ρ, fin hpv r1, .inr ⟨rfl, rfl⟩, m1, hF.mono m2 (zf.refl _), hD.mono m2, .junk _⟩
      ·cases h
    ·cases h
   ·cases h
  ·cases h
 ·cases h
theorem rW {t e u : TypeId} {i : TypeInfo} {z : Value} {g off n cap : Nat} {c : Array Value} (ht : P.underlying t = some (.slice e)) (hi : P.info? e = some i) (hz : i.zero = some z) (hg : w.heap[g]? = some (.cells c u (0, 0)))
  (hfit : off + n * z.cells.size ≤ c.size) (h1 : ∀ v ∈ z.cells.toList, v.oneCell' = true) :
  ∃ w', (∀ ty, (Builtin.clear_ #[t] ty #[.slice (some ⟨g, off, none⟩) n cap]).run P w = .ok (.tuple #[]) w') ∧ (∀ b, b ≠ g → w'.heap[b]? = w.heap[b]?) ∧ w'.heap.size = w.heap.size ∧ w'.os = w.os ∧ w'.tape = w.tape ∧ w'.output = w.output ∧ dn w ≤ dn w' ∧
   ∃ c', w'.heap[g]? = some (.cells c' u (0, 0)) ∧ c'.size = c.size ∧ ∀ p, c'.getD p undef = if off ≤ p ∧ p < off + n * z.cells.size then z.cells.getD ((p - off) % z.cells.size) undef else c.getD p undef := by
 by_cases h0 : n = 0
 ·subst h0
  refine ⟨w, fun ty => ?_, fun _ _ => rfl, rfl, rfl, rfl, rfl, Nat.le_refl _, c, hg, rfl, fun p => by rw [if_neg (by omega)]⟩
  simp [Builtin.clear_, run_underlying ht]
 obtain ⟨m, rfl⟩ : ∃ m, n = m + 1 := ⟨n - 1, by omega⟩
 obtain ⟨zs, hzs⟩ : ∃ zs, zs = (Builtin.zeroCells z.cells (m + 1)).toList := ⟨_, rfl⟩
 have hlen : zs.length = (m + 1) * z.cells.size := by rw [hzs, Array.length_toList, size_zeroCells]
 have hget : ∀ p, p < (m + 1) * z.cells.size → zs[p]? = some (z.cells.getD (p % z.cells.size) undef) := fun p hp => by
  have hpos : 0 < z.cells.size := by
   by_cases h : z.cells.size = 0
   ·rw [h] at hp; omega
   ·omega
  have hq : p % z.cells.size < z.cells.size := Nat.mod_lt _ hpos
  rw [hzs, Array.getElem?_toList]
  unfold Builtin.zeroCells
  rw [Array.getElem?_map, Array.getElem?_range, if_pos hp, Option.map_some, getElem!_pos z.cells _ hq, Array.getD_eq_getD_getElem?, Array.getElem?_eq_getElem hq, Option.getD_some]
 have hst := run_storeCells_at P g off u zs 0 c w hg (by rw [hlen]; simpa using hfit) (fun x hx => by
  obtain ⟨j, hj, rfl⟩ := List.getElem_of_mem hx
  have hpos : 0 < z.cells.size := by
   by_cases h : z.cells.size = 0
   ·rw [hlen, h] at hj; omega
   ·omega
  have := hget j (by omega)
  rw [List.getElem?_eq_getElem hj, Option.some.injEq] at this
  rw [this]
  have hq : j % z.cells.size < z.cells.size := Nat.mod_lt _ hpos
  rw [Array.getD_eq_getD_getElem?, Array.getElem?_eq_getElem hq, Option.getD_some]
  exact h1 _ (by simp))
 obtain ⟨cn, hcn⟩ : ∃ cn : Array Value, cn = (c.toList.take (off + 0) ++ zs ++ c.toList.drop (off + 0 + zs.length)).toArray := ⟨_, rfl⟩
 rw [← hcn] at hst
 refine ⟨w.setRow g cn, fun ty => ?_, fun b hb => setRow_other w g b cn hb, setRow_size _ _ _, rfl, rfl, rfl, Nat.le_refl _, cn, setRow_heap w g c cn u (0, 0) hg, ?_, fun j => ?_⟩
 ·simp only [Builtin.clear_, List.getElem?_toArray, List.getElem?_cons_zero, Sem.run_bind, run_underlying ht, Result.andThen_ok, WH hi hz, ← hzs, hst, Sem.run_pure]
 ·rw [hcn]
  simp only [List.size_toArray, List.length_append, List.length_take, List.length_drop, Array.length_toList]
  omega
 ·rw [hcn]
  simp only [Array.getD_eq_getD_getElem?, List.getElem?_toArray, Nat.add_zero]
  rw [List.append_assoc, List.getElem?_append]
  simp only [List.length_take, Array.length_toList]
  have hm : min off c.size = off := by omega
  rw [hm]
  by_cases h2 : j < off
  ·rw [if_pos h2, if_neg (by omega), List.getElem?_take, if_pos h2]
   simp
  ·rw [if_neg h2, List.getElem?_append]
   by_cases h3 : j - off < zs.length
   ·rw [if_pos h3, if_pos (by omega), hget _ (by omega), Array.getD_eq_getD_getElem?]
    simp
   ·rw [if_neg h3, if_neg (by omega), List.getElem?_drop]
    rw [show off + zs.length + (j - off - zs.length) = j by omega]
    simp
theorem Sz {o : Oper} {e : Operand → Value} {ox : Operand} {t : TypeId} (ho : o.op = .call { callee := .builtin .clear, args := #[ox], argTypes := #[t] }) {v : Value} {w' : World}
  (h : (Builtin.clear_ #[t] o.type #[e ox]).run P w = .ok v w') : (execOp e o).run P w = .ok (.value v) w' := by
 simp only [execOp, ho, resolve, Sem.run_bind, Sem.run_pure, Result.andThen_ok, invoke, builtin, List.map_toArray, List.map_cons, List.map_nil, h]
theorem TN {σ σ' : zo} {t : TypeId} {x : AV} {ox : Operand} {a : Act} {o : Oper} {e : Operand → Value} (ho : o.op = .call { callee := .builtin .clear, args := #[ox], argTypes := #[t] }) (hM : Mem E σ.nb σ.bl S ρ w) (hF : Yq w S ρ σ.n σ.tm a)
  (hD : wi E.w0.heap.size w S a.defers) (hx : zF w S ρ x (e ox)) (h : xh P σ t x = some σ') : Eff P E e o a w σ' .junk := by
 unfold xh at h
 split at h
 ·rename_i k off len el hu
  split at h
  ·rename_i u sz L els i hB hi
   split at h
   ·rename_i z hz
    split at h
    ·rename_i hc
     obtain ⟨hc1, hc2⟩ := hc
     cases h
     obtain ⟨xv, hxv⟩ : ∃ xv, e ox = xv := ⟨_, rfl⟩
     rw [hxv] at hx
     have hk : k < σ.nb := by
      by_cases hk : k < σ.nb
      ·exact hk
      ·exfalso
       have hn := hM.hi k (by omega)
       cases hx with
       | ns g base cap sz' L' hk' => rw [hn] at hk'; cases hk'
       | ns0 g base cap sz' L' A hk' => rw [hn] at hk'; cases hk'
       | nsn sz' o' hk' => rw [hn] at hk'; cases hk'
       | dns hd _ => rw [hn] at hd; cases hd
     have hbk := hM.at k
     -- nothing to clear
     have none0 : len = 0 → (∃ o' c', xv = .slice o' 0 c') → Eff P E e o a w { σ with bl := upd σ.bl k (.arr u sz L fun r c => bif Nat.ble off r && Nat.blt r (off + len) then ZD z c else els r c) } .junk := by
      rintro rfl ⟨o', c', rfl⟩
      have hf : (fun r c => bif Nat.ble off r && Nat.blt r (off + 0) then ZD z c else els r c) = els := by
       funext r c
       have : (Nat.ble off r && Nat.blt r (off + 0)) = false := by
        rw [Bool.eq_false_iff]
        intro h
        rw [Bool.and_eq_true] at h
        have h1 := Nat.le_of_ble_eq_true h.1
        have h2 : r + 1 ≤ off + 0 := Nat.le_of_ble_eq_true h.2
        omega
       rw [this]; rfl
      have hb : upd σ.bl k (.arr u sz L fun r c => bif Nat.ble off r && Nat.blt r (off + 0) then ZD z c else els r c) = σ.bl := by
       rw [hf]
       funext j
       by_cases ej : j = k
       ·subst ej; rw [upd_same, hB]
       ·rw [zM _ _ ej]
      refine ⟨_, .tuple #[], w, S, ρ, Sz ho (w' := w) (v := .tuple #[]) ?_, .inl rfl, by rw [hb]; exact hM, hF, hD, .junk _⟩
      rw [hxv]
      cases o' <;> simp [Builtin.clear_, run_underlying hu]
     cases hx with
     | dns hd _ => exact (hM.arr (by rw [hB]; rfl) hd).elim
     | ns0 g base cap sz' L' A hk' hl hcap h0 => exact none0 (by omega) ⟨_, _, rfl⟩
     | nsn sz' o' hk' => exact none0 rfl ⟨_, _, rfl⟩
     | ns g base cap sz' L' hk' hl hcap =>
      have hbk := hbk.resolve_left (by rw [hk']; simp)
      rw [hB, hk'] at hbk
      obtain ⟨e1, e2, b1, b2, c, b3, b4, b5⟩ := hbk
      subst e1; subst e2
      have hfit : (base + off) * sz' + len * sz' ≤ c.size := by
       rw [← b4, ← Nat.add_mul]; exact Nat.mul_le_mul_right _ (by omega)
      obtain ⟨w', r1, r2, r3, r4, r5, r6, rd, c', r7, r8, r9⟩ := rW (P := P) (n := len) (cap := cap - off) (off := (base + off) * sz') hu hi hz b3 (by rw [hc1]; exact hfit) (fun v hv => List.all_eq_true.1 hc2 v hv)
      have hS : ∀ b, S b → S b ∧ w'.heap[b]? = w.heap[b]? := fun b hb => ⟨hb, r2 b fun e' => (hM.own k g (by rw [hk']; rfl)).1 (e' ▸ hb)⟩
      obtain ⟨m1, m2⟩ := hM.write (k := k) (g := g) (B := .arr u sz' L' fun r c => bif Nat.ble off r && Nat.blt r (off + len) then ZD z c else els r c) hk (by rw [hk']; rfl) r2 r3 r4 r5 r6 rd (by
       rw [hk']
       refine ⟨rfl, rfl, b1, b2, c', r7, by omega, fun i' j hi' hj => ?_⟩
       rw [r9, hc1]
       dsimp only
       cases hin : Nat.ble off i' && Nat.blt i' (off + len) with
       | true =>
        rw [Bool.and_eq_true] at hin
        have h1 := Nat.le_of_ble_eq_true hin.1
        have h2 : i' + 1 ≤ off + len := Nat.le_of_ble_eq_true hin.2
        have q1 : (base + off) * sz' ≤ (base + i') * sz' + j := Nat.le_trans (Nat.mul_le_mul_right _ (by omega)) (Nat.le_add_right _ _)
        have q2 : (base + i') * sz' + j < (base + off) * sz' + len * sz' := by
         rw [← Nat.add_mul]
         calc (base + i') * sz' + j < (base + i') * sz' + sz' := by omega
          _ = (base + i' + 1) * sz' := by rw [Nat.succ_mul]
          _ ≤ (base + off + len) * sz' := Nat.mul_le_mul_right _ (by omega)
        have q3 : ((base + i') * sz' + j - (base + off) * sz') % sz' = j := by
         have : (base + i') * sz' + j - (base + off) * sz' = (i' - off) * sz' + j := by
          rw [show base + i' = (base + off) + (i' - off) by omega, Nat.add_mul]; omega
         rw [this, Nat.mul_comm, Nat.mul_add_mod, Nat.mod_eq_of_lt hj]
        rw [if_pos ⟨q1, q2⟩, q3, cond_true]
        have hjz : j < z.cells.size := by omega
        refine ⟨.const _, List.all_eq_true.1 hc2 _ ?_⟩
        rw [Array.getD_eq_getD_getElem?, Array.getElem?_eq_getElem hjz, Option.getD_some]
        simp
       | false =>
        rw [Bool.and_eq_false_iff] at hin
        have hne : ¬ ((base + off) * sz' ≤ (base + i') * sz' + j ∧ (base + i') * sz' + j < (base + off) * sz' + len * sz') := by
         rintro ⟨q1, q2⟩
         rcases hin with h | h
         ·have h' : i' < off := by
           by_cases hle : off ≤ i'
           ·rw [Nat.ble_eq_true_of_le hle] at h; cases h
           ·omega
          have : (base + i') * sz' + sz' ≤ (base + off) * sz' := by rw [← Nat.succ_mul]; exact Nat.mul_le_mul_right _ (by omega)
          omega
         ·have h' : off + len ≤ i' := by
           by_cases hle : i' + 1 ≤ off + len
           ·have : Nat.blt i' (off + len) = true := Nat.ble_eq_true_of_le hle
            rw [this] at h; cases h
           ·omega
          have : (base + off) * sz' + len * sz' ≤ (base + i') * sz' := by rw [← Nat.add_mul]; exact Nat.mul_le_mul_right _ (by omega)
          omega
        rw [if_neg hne, cond_false]
        exact ⟨(b5 i' j hi' hj).1.mono hS (zf.refl _), (b5 i' j hi' hj).2⟩)
      exact ⟨_, .tuple #[], w', S, ρ, Sz ho (by rw [hxv]; exact r1 _), .inl rfl, m1, hF.mono m2 (zf.refl _), hD.mono m2, .junk _⟩
    ·cases h
   ·cases h
  ·cases h
 ·cases h
theorem uQ {σ σ' : zo} {t : TypeId} {r : AV} {a : Act} {o : Oper} {e : Operand → Value} (ho : o.op = .makeMap t none) (hM : Mem E σ.nb σ.bl S ρ w) (hF : Yq w S ρ σ.n σ.tm a) (hD : wi E.w0.heap.size w S a.defers)
  (h : XR P σ t = some (σ', r)) : Eff P E e o a w σ' r := by
 unfold XR at h
 split at h
 ·cases h
  obtain ⟨g1, g2, g3⟩ := hM.adopt (w' := w.alloc (.map #[] 0)) (g := w.heap.size) (B := .mp [] fun _ _ => .v (.slice none 0 0)) (o := .mp w.heap.size)
   (fun g' hg' => by cases hg'; rfl) (fun b hb _ => yy w _ hb) (by simp) rfl rfl rfl (Nat.le_refl _) (fun hs => Nat.lt_irrefl _ (hM.sb _ hs)) (fun k hk => Nat.lt_irrefl _ (hM.blk_lt hk)) (.inl hM.fr.size)
   (fun _ _ _ _ _ hh => by cases hh) ⟨#[], heap_alloc_new w _, ⟨rfl, rfl, List.nodup_nil⟩, fun a b => .v _⟩
  refine ⟨_, _, _, S, _, ?_, .inl rfl, g1, hF.mono g3 g2, hD.mono g3, .mp _ (upd_same _ _ _)⟩
  simp only [execOp, ho, Sem.run_bind]
  rfl
 ·cases h
theorem Vb (a b : Int) : Instr.sameBits 10000 (Ys a b) (Ys a b) = true := by
 simp [Ys, Instr.sameBits]
theorem Tn (a b : Int) : ∀ (es : List MapEntry) (i : Nat),
  (wC a b es i = none ∧ ∀ e ∈ es, Yp a b e.key = false) ∨ ∃ j e, wC a b es i = some (i + j, e.val) ∧ es[j]? = some e ∧ Yp a b e.key = true ∧ ∀ j' e', j' < j → es[j']? = some e' → Yp a b e'.key = false
 | [], _ => .inl ⟨rfl, fun e h => by cases h⟩
 | e :: es, i => by
  unfold wC
  cases hk : Yp a b e.key with
  | true => exact .inr ⟨0, e, by simp, rfl, hk, fun j' e' h => by omega⟩
  | false =>
   rcases Tn a b es (i + 1) with ⟨h1, h2⟩ | ⟨j, e1, h1, h2, h3, h4⟩
   ·refine .inl ⟨by simpa using h1, fun e' h => ?_⟩
    rcases List.mem_cons.1 h with rfl | h
    ·exact hk
    ·exact h2 _ h
   ·refine .inr ⟨j + 1, e1, by simp only [h1]; simp; omega, by simpa using h2, h3, fun j' e' hj' he' => ?_⟩
    cases j' with
    | zero => simp at he'; subst he'; exact hk
    | succ j' => exact h4 j' e' (by omega) (by simpa using he')
theorem uN (a b p q : Int) (v : Value) (c : Nat) : ∀ (es : List MapEntry), (∀ e ∈ es, Yp a b e.key = false) →
  xL p q (es ++ [{ key := Ys a b, val := v, born := c }]) = if p = a ∧ q = b then v else xL p q es
 | [], _ => by
  simp only [List.nil_append, xL, Xx, Bool.and_eq_true, beq_iff_eq]
 | e :: es, h => by
  simp only [List.cons_append, xL]
  rw [uN a b p q v c es fun e' h' => h e' (List.mem_cons_of_mem _ h')]
  have h0 := h e (List.mem_cons_self ..)
  by_cases hk : Yp p q e.key = true
  ·rw [if_pos hk, if_pos hk]
   by_cases hpq : p = a ∧ q = b
   ·obtain ⟨rfl, rfl⟩ := hpq; rw [h0] at hk; cases hk
   ·rw [if_neg hpq]
  ·rw [if_neg hk, if_neg hk]
theorem WV (a b p q : Int) (v : Value) (G : MapEntry → MapEntry) (hG : ∀ e, Yp a b e.key = true → (G e).key = Ys a b ∧ (G e).val = v) : ∀ (es : List MapEntry) (j : Nat) (e : MapEntry), es[j]? = some e → Yp a b e.key = true →
  (∀ j' e', j' < j → es[j']? = some e' → Yp a b e'.key = false) → xL p q (es.modify j G) = if p = a ∧ q = b then v else xL p q es
 | [], j, e, h, _, _ => by simp at h
 | e0 :: es, 0, e, h, hk, _ => by
  simp at h; subst h
  simp only [List.modify_zero_cons, xL, (hG e0 hk).1, (hG e0 hk).2, Xx, Bool.and_eq_true, beq_iff_eq]
  rw [W2 hk, Xx]
  simp only [Bool.and_eq_true, beq_iff_eq]
  by_cases hpq : p = a ∧ q = b
  ·rw [if_pos hpq, if_pos hpq]
  ·rw [if_neg hpq, if_neg hpq, if_neg hpq]
 | e0 :: es, j + 1, e, h, hk, hl => by
  simp only [List.modify_succ_cons, xL]
  rw [WV a b p q v G hG es j e (by simpa using h) hk fun j' e' hj' he' => hl (j' + 1) e' (by omega) (by simpa using he')]
  have h0 := hl 0 e0 (by omega) rfl
  by_cases hk' : Yp p q e0.key = true
  ·rw [if_pos hk', if_pos hk']
   by_cases hpq : p = a ∧ q = b
   ·obtain ⟨rfl, rfl⟩ := hpq; rw [h0] at hk'; cases hk'
   ·rw [if_neg hpq]
  ·rw [if_neg hk', if_neg hk']
theorem Xr.len {es : Array MapEntry} {ks : List (Int × Int)} (h : Xr es ks) : ks.length = es.size := by
 have := congrArg List.length h.key
 simpa using this.symm
theorem Xr.at_ {es : Array MapEntry} {ks : List (Int × Int)} (h : Xr es ks) {j : Nat} {e : MapEntry} (he : es[j]? = some e) : ∃ p, ks[j]? = some p ∧ e.key = Ys p.1 p.2 ∧ e.born = j := by
 have h1 : (es.toList.map (·.key))[j]? = some e.key := by rw [List.getElem?_map, Array.getElem?_toList, he]; rfl
 rw [h.key, List.getElem?_map, Option.map_eq_some_iff] at h1
 obtain ⟨p, h2, h3⟩ := h1
 have h4 : (es.toList.map (·.born))[j]? = some e.born := by rw [List.getElem?_map, Array.getElem?_toList, he]; rfl
 have hj : j < es.size := (Array.getElem?_eq_some_iff.1 he).1
 rw [h.born, List.getElem?_range hj, Option.some.injEq] at h4
 exact ⟨p, h2, h3.symm, h4.symm⟩
theorem Xr.find {es : Array MapEntry} {ks : List (Int × Int)} (h : Xr es ks) (a b : Int) :
  (wC a b es.toList 0 = none ∧ TD ks a b = false ∧ Vs ks a b = es.size ∧ (∀ e ∈ es.toList, Yp a b e.key = false)) ∨
  ∃ e, wC a b es.toList 0 = some (Vs ks a b, e.val) ∧ TD ks a b = true ∧ es[Vs ks a b]? = some e ∧ Yp a b e.key = true ∧ ∀ j' e', j' < Vs ks a b → es.toList[j']? = some e' → Yp a b e'.key = false := by
 rcases Tn a b es.toList 0 with ⟨h1, h2⟩ | ⟨j, e, h1, h2, h3, h4⟩
 ·have hno : ∀ p ∈ ks, (a == p.1 && b == p.2) = false := fun p hp => by
   obtain ⟨j, hj, e1⟩ := List.mem_iff_getElem.1 hp
   have hj' : j < es.size := by rw [← h.len]; exact hj
   obtain ⟨p', q1, q2, _⟩ := h.at_ (Array.getElem?_eq_getElem hj')
   rw [List.getElem?_eq_getElem hj, Option.some.injEq] at q1
   have := h2 es[j] (by simp)
   rw [q2, ← q1, e1] at this
   exact this
  refine .inl ⟨h1, ?_, ?_, h2⟩
  ·unfold TD
   rw [List.any_eq_false]
   intro p hp
   rw [hno p hp]; simp
  ·unfold Vs
   rw [List.findIdx_eq_length_of_false hno, h.len]
 ·rw [Array.getElem?_toList] at h2
  obtain ⟨p, q1, q2, _⟩ := h.at_ h2
  have hpt : (a == p.1 && b == p.2) = true := by rw [q2] at h3; exact h3
  obtain ⟨hj, e1⟩ := List.getElem?_eq_some_iff.1 q1
  have hidx : Vs ks a b = j := by
   unfold Vs
   rw [List.findIdx_eq hj]
   refine ⟨by rw [e1]; exact hpt, fun j' hj' => ?_⟩
   have hj2 : j' < es.size := by rw [← h.len]; omega
   obtain ⟨p', r1, r2, _⟩ := h.at_ (Array.getElem?_eq_getElem hj2)
   rw [List.getElem?_eq_getElem (by omega), Option.some.injEq] at r1
   have := h4 j' es[j'] hj' (by rw [Array.getElem?_toList]; exact Array.getElem?_eq_getElem hj2)
   rw [r2, ← r1, Xx] at this
   simpa using this
  refine .inr ⟨e, by rw [hidx]; simpa using h1, ?_, by rw [hidx]; exact h2, h3, fun j' e' hj' he' => h4 j' e' (by omega) he'⟩
  unfold TD
  rw [List.any_eq_true]
  exact ⟨p, List.mem_of_getElem? q1, hpt⟩
theorem Xr.push {es : Array MapEntry} {ks : List (Int × Int)} (h : Xr es ks) {a b : Int} (hn : TD ks a b = false) (v : Value) : Xr (es.push { key := Ys a b, val := v, born := es.size }) (qK ks a b) := by
 unfold qK
 rw [hn, cond_false]
 refine ⟨by simp [h.key], ?_, ?_⟩
 ·simp only [Array.toList_push, List.map_append, h.born, List.map_cons, List.map_nil, Array.size_push, List.range_succ]
 ·rw [List.nodup_append]
  refine ⟨h.one, by simp, fun x hx y hy => ?_⟩
  rw [List.mem_singleton] at hy
  subst hy
  rintro rfl
  unfold TD at hn
  rw [List.any_eq_false] at hn
  exact hn _ hx (by simp)
theorem Xr.mod {es : Array MapEntry} {ks : List (Int × Int)} (h : Xr es ks) {a b : Int} (hn : TD ks a b = true) {j : Nat} {e : MapEntry} (he : es[j]? = some e) (G : MapEntry → MapEntry) (hG : (G e).key = e.key ∧ (G e).born = e.born) : Xr (es.modify j G) ks := by
 have key : ∀ {α : Type} (g : MapEntry → α), g (G e) = g e → (es.modify j G).toList.map g = es.toList.map g := fun g hg => by
  apply List.ext_getElem?
  intro i
  rw [List.getElem?_map, List.getElem?_map, Array.getElem?_toList, Array.getElem?_toList, Array.getElem?_modify]
  by_cases e1 : j = i
  ·subst e1
   rw [if_pos rfl, he]
   simp [hg]
  ·rw [if_neg e1]
 exact ⟨(key (·.key) hG.1).trans h.key, by rw [key (·.born) hG.2, Array.size_modify]; exact h.born, h.one⟩
theorem qX {ks : List (Int × Int)} {a b : Int} (h : TD ks a b = true) : qK ks a b = ks := by unfold qK; rw [h]; rfl
theorem Pl {t kt : TypeId} {g : Nat} {es : Array MapEntry} {ks : List (Int × Int)} {a b : Int} {v : Value} (hm : qf P t = some kt) (hs : P.stoodInHeld kt = false) (hb : w.heap[g]? = some (.map es es.size)) (hk : Xr es ks) :
  ∃ es', (Instr.mapUpdate t (.map (some g)) (Ys a b) v).run P w = .ok () { w with heap := w.heap.setIfInBounds g (.map es' es'.size) } ∧
   Xr es' (qK ks a b) ∧ ∀ p q, xL p q es'.toList = if p = a ∧ q = b then v else xL p q es.toList := by
 obtain ⟨el, hu, hz, hpk⟩ := uj hm
 have hf := Ty hpk hs a b w es.toList hk.pairs
 rcases hk.find a b with ⟨h1, h2, h3, h4⟩ | ⟨e0, h1, h2, h3, h4, h5⟩
 ·rw [h1] at hf
  refine ⟨es.push { key := Ys a b, val := v, born := es.size }, ?_, hk.push h2 v, fun p q => ?_⟩
  ·unfold Instr.mapUpdate
   simp only [Sem.run_bind, run_underlying hu, Result.andThen_ok, MapKept.run_getObj_map hb, wU hpk, hf, Array.size_push]
   exact MapKept.run_setObj_map _ hb
  ·rw [Array.toList_push]; exact uN a b p q v es.size es.toList h4
 ·rw [h1] at hf
  have hke := W2 h4
  refine ⟨es.modify (Vs ks a b) fun e => { e with key := Ys a b, val := v }, ?_, by rw [qX h2]; exact hk.mod h2 h3 _ ⟨hke.symm, rfl⟩, fun p q => ?_⟩
  ·unfold Instr.mapUpdate
   simp only [Sem.run_bind, run_underlying hu, Result.andThen_ok, MapKept.run_getObj_map hb, wU hpk, hf]
   simp only [h3, Option.map_some, Option.getD_some, hke, Instr.keyThatStays, Vb, if_true, Sem.run_pure, Result.andThen_ok, Array.size_modify]
   exact MapKept.run_setObj_map _ hb
  ·rw [Array.toList_modify]
   exact WV a b p q v _ (fun e _ => ⟨rfl, rfl⟩) es.toList _ e0 (by rw [Array.getElem?_toList]; exact h3) h4 h5
theorem Rm {t kt : TypeId} {g : Nat} {es : Array MapEntry} {ks : List (Int × Int)} {a b : Int} (hm : qf P t = some kt) (hs : P.stoodInHeld kt = false) (hb : w.heap[g]? = some (.map es es.size)) (hk : Xr es ks) :
  ∃ es', (Instr.mapEntry t (.map (some g)) (Ys a b)).run P w = .ok (.tuple #[xL a b es.toList, .int .i64 (Vs ks a b)]) { w with heap := w.heap.setIfInBounds g (.map es' es'.size) } ∧
   Xr es' (qK ks a b) ∧ ∀ p q, xL p q es'.toList = xL p q es.toList := by
 obtain ⟨el, hu, hz, hpk⟩ := uj hm
 have hf := Ty hpk hs a b w es.toList hk.pairs
 have hg := uI a b es.toList 0
 rcases hk.find a b with ⟨h1, h2, h3, h4⟩ | ⟨e0, h1, h2, h3, h4, h5⟩
 ·rw [h1] at hf hg
  refine ⟨es.push { key := Ys a b, val := .slice none 0 0, born := es.size }, ?_, hk.push h2 _, fun p q => ?_⟩
  ·unfold Instr.mapEntry
   simp only [Sem.run_bind, run_underlying hu, Result.andThen_ok, MapKept.run_getObj_map hb, wU hpk, hf, hz w, MapKept.run_setObj_map _ hb, Sem.run_pure, hg, h3, Array.size_push]
   rfl
  ·rw [Array.toList_push, uN a b p q _ es.size es.toList h4]
   split
   ·rename_i h; obtain ⟨rfl, rfl⟩ := h; exact hg.symm
   ·rfl
 ·rw [h1] at hf hg
  have hke := W2 h4
  obtain ⟨_, _, _, hbn⟩ := hk.at_ h3
  refine ⟨es.modify (Vs ks a b) fun e => { e with key := Ys a b }, ?_, by rw [qX h2]; exact hk.mod h2 h3 _ ⟨hke.symm, rfl⟩, fun p q => ?_⟩
  ·unfold Instr.mapEntry
   simp only [Sem.run_bind, run_underlying hu, Result.andThen_ok, MapKept.run_getObj_map hb, wU hpk, hf]
   simp only [h3, Option.map_some, Option.getD_some, hke, Instr.keyThatStays, Vb, if_true, Sem.run_pure, Result.andThen_ok, MapKept.run_setObj_map _ hb, hg, hbn, Array.size_modify]
   rfl
  ·have : es.modify (Vs ks a b) (fun e => { e with key := Ys a b }) = es := by
    apply Array.ext_getElem?
    intro i
    rw [Array.getElem?_modify]
    by_cases e1 : Vs ks a b = i
    ·subst e1
     rw [if_pos rfl, h3, Option.map_some, ← hke]
    ·rw [if_neg e1]
   rw [this]
theorem tM {t : TypeId} {g n : Nat} {es : Array MapEntry} {ks : List (Int × Int)} {v : Value} (hb : w.heap[g]? = some (.map es es.size)) (hk : Xr es ks) (hn : n < ks.length) :
  ∃ es', (Instr.entryStore t (.map (some g)) (.int .i64 n) v).run P w = .ok () { w with heap := w.heap.setIfInBounds g (.map es' es'.size) } ∧
   Xr es' ks ∧ ∀ p q, xL p q es'.toList = if p = (ks.getD n (0, 0)).1 ∧ q = (ks.getD n (0, 0)).2 then v else xL p q es.toList := by
 have hne : n < es.size := by rw [← hk.len]; exact hn
 have he := Array.getElem?_eq_getElem hne
 obtain ⟨p0, q1, q2, q3⟩ := hk.at_ he
 have hp0 : ks.getD n (0, 0) = p0 := by rw [List.getD_eq_getElem?_getD, q1]; rfl
 have hfi : es.findIdx? (fun e => (e.born : Int) == (n : Int)) = some n := by
  rw [Array.findIdx?_eq_some_iff_getElem]
  refine ⟨hne, by rw [q3]; simp, fun j hj => ?_⟩
  obtain ⟨_, _, _, r3⟩ := hk.at_ (Array.getElem?_eq_getElem (show j < es.size by omega))
  rw [r3]
  simp only [beq_iff_eq]
  omega
 rw [hp0]
 refine ⟨es.modify n fun e => { e with val := v }, ?_, ?_, fun p q => ?_⟩
 ·unfold Instr.entryStore
  simp only [Sem.run_bind, MapKept.run_getObj_map hb, Result.andThen_ok, asInt, asIntOf, Sem.run_pure, hfi, Array.size_modify]
  exact MapKept.run_setObj_map _ hb
 ·exact hk.mod (a := p0.1) (b := p0.2) (by unfold TD; rw [List.any_eq_true]; exact ⟨p0, List.mem_of_getElem? q1, by simp⟩) he _ ⟨rfl, rfl⟩
 ·rw [Array.toList_modify]
  refine WV p0.1 p0.2 p q v (fun e => { e with val := v }) (fun e h => ⟨W2 h, rfl⟩) es.toList n es[n] (by rw [Array.getElem?_toList]; exact he) (by rw [q2, Xx]; simp) fun j' e' hj' he' => ?_
  rw [Array.getElem?_toList] at he'
  obtain ⟨p', r1, r2, _⟩ := hk.at_ he'
  rw [r2, Xx, Bool.eq_false_iff]
  intro h
  simp only [Bool.and_eq_true, beq_iff_eq] at h
  have hpp : p0 = p' := Prod.ext h.1 h.2
  obtain ⟨a1, a2⟩ := List.getElem?_eq_some_iff.1 q1
  obtain ⟨b1, b2⟩ := List.getElem?_eq_some_iff.1 r1
  have := (List.getElem_inj hk.one (h₀ := a1) (h₁ := b1)).1 (by rw [a2, b2, hpp])
  omega
theorem Mem.map_at {σ : zo} (hM : Mem E σ.nb σ.bl S ρ w) {i : Nat} {ks : List (Int × Int)} {f : Int → Int → AV} {mv : Value} (hB : σ.bl i = .mp ks f) (hm : zF w S ρ (.mp i) mv) :
  i < σ.nb ∧ ∃ g es, ρ i = .mp g ∧ mv = .map (some g) ∧ w.heap[g]? = some (.map es es.size) ∧ Xr es ks ∧ ∀ a b, zF w S ρ (f a b) (xL a b es.toList) := by
 have hbk := hM.at i
 have hi : i < σ.nb := by
  by_cases hi : i < σ.nb
  ·exact hi
  ·exfalso
   cases hm with
   | mp g hg => rw [hM.hi i (by omega)] at hg; cases hg
   | dmp hd _ => rw [hM.hi i (by omega)] at hd; cases hd
 cases hm with
 | dmp hd _ =>
  have hbk := hbk.resolve_left (by rw [hd]; simp)
  rw [hB, hd] at hbk
  exact hbk.elim
 | mp g hg =>
  have hbk := hbk.resolve_left (by rw [hg]; simp)
  rw [hB, hg] at hbk
  obtain ⟨es, c1, c2, c3⟩ := hbk
  exact ⟨hi, g, es, hg, rfl, c1, c2, c3⟩
theorem o9 {cs : Nat → AV} {p q : Int} {kv : Value} (hk : zF w S ρ (.agg 2 cs) kv) (h0 : cs 0 = .v (.int .i64 p)) (h1 : cs 1 = .v (.int .i64 q)) : kv = Ys p q := by
 cases hk with
 | agg vs hn hr =>
  have e0 := ZW (h0 ▸ hr 0 (by omega))
  have e1 := ZW (h1 ▸ hr 1 (by omega))
  unfold Ys
  congr 1
  apply Array.ext (by simp [hn])
  intro r hr _
  rw [Array.getD_eq_getD_getElem?, Array.getElem?_eq_getElem (by omega), Option.getD_some] at e0 e1
  obtain rfl | rfl : r = 0 ∨ r = 1 := by omega
  ·exact e0
  ·exact e1
theorem Mem.map_write {σ : zo} (hM : Mem E σ.nb σ.bl S ρ w) {i g : Nat} {es' : Array MapEntry} {es : Array MapEntry} {ks' : List (Int × Int)} {f' : Int → Int → AV} (hi : i < σ.nb) (hg : ρ i = .mp g) (c1 : w.heap[g]? = some (.map es es.size)) (hk : Xr es' ks')
  (hf : ∀ a b, zF w S ρ (f' a b) (xL a b es'.toList)) :
  Mem E σ.nb (upd σ.bl i (.mp ks' f')) S ρ { w with heap := w.heap.setIfInBounds g (.map es' es'.size) } ∧ ∀ b, S b → S b ∧ ({ w with heap := w.heap.setIfInBounds g (.map es' es'.size) } : World).heap[b]? = w.heap[b]? := by
 have hlt : g < w.heap.size := (Array.getElem?_eq_some_iff.1 c1).1
 have hw : ∀ b, b ≠ g → ({ w with heap := w.heap.setIfInBounds g (.map es' es'.size) } : World).heap[b]? = w.heap[b]? := fun b hb => by
  simp only [Array.getElem?_setIfInBounds]
  rw [if_neg (fun h => hb h.symm)]
 have hS : ∀ b, S b → S b ∧ ({ w with heap := w.heap.setIfInBounds g (.map es' es'.size) } : World).heap[b]? = w.heap[b]? := fun b hb => ⟨hb, hw b fun e' => (hM.own i g (by rw [hg]; rfl)).1 (e' ▸ hb)⟩
 refine hM.write (k := i) (g := g) hi (by rw [hg]; rfl) hw (by simp) rfl rfl rfl (Nat.le_refl _) ?_
 rw [hg]
 exact ⟨es', by simp [hlt], hk, fun a b => (hf a b).mono hS (zf.refl _)⟩
theorem oJ {f : Int → Int → AV} {a b : Int} {x : AV} {v : Value} {es es' : List MapEntry} (hx : zF w S ρ x v) (hf : ∀ a b, zF w S ρ (f a b) (xL a b es)) (he : ∀ p q, xL p q es' = if p = a ∧ q = b then v else xL p q es) (p q : Int) : zF w S ρ (fG f a b x p q) (xL p q es') := by
 rw [he]
 unfold fG
 by_cases hpq : p = a ∧ q = b
 ·obtain ⟨rfl, rfl⟩ := hpq
  simp only [beq_self_eq_true, Bool.and_self, cond_true, and_self, if_true]
  exact hx
 ·have : (p == a && q == b) = false := by
   rw [Bool.eq_false_iff]; intro h; simp only [Bool.and_eq_true, beq_iff_eq] at h; exact hpq h
  rw [if_neg hpq]
  simp only [this, cond_false]
  exact hf p q
theorem Un {σ σ' : zo} {t : TypeId} {m k x : AV} {om ok ox : Operand} {ps : List zn} {a : Act} {o : Oper} {e : Operand → Value} (ho : o.op = .mapUpdate t om ok ox) (hM : Mem E σ.nb σ.bl S ρ w) (hF : Yq w S ρ σ.n σ.tm a)
  (hD : wi E.w0.heap.size w S a.defers) (hm : zF w S ρ m (e om)) (hk : zF w S ρ k (e ok)) (hx : zF w S ρ x (e ox)) (h : Yh P σ t m k x = some (ps, σ')) (hp : ∀ p ∈ ps, p.holds) : Eff P E e o a w σ' .junk := by
 unfold Yh at h
 split at h
 ·rename_i kt i cs hmt
  split at h
  ·rename_i ks f p q hB h0 h1
   cases h
   have hs := cd (hp _ (List.mem_cons_self ..))
   obtain ⟨hi, g, es, hg, hmv, c1, c2, c3⟩ := hM.map_at hB hm
   have hkv := o9 hk h0 h1
   obtain ⟨es', r1, r2, r3⟩ := Pl (P := P) (v := e ox) (a := p) (b := q) hmt hs c1 c2
   obtain ⟨m1, m2⟩ := hM.map_write hi hg c1 r2 (oJ hx c3 r3)
   refine ⟨_, undef, _, S, ρ, ?_, .inr ⟨rfl, rfl⟩, m1, hF.mono m2 (zf.refl _), hD.mono m2, .junk _⟩
   simp only [execOp, ho, Sem.run_bind, hmv, hkv, r1, Result.andThen_ok, Sem.run_pure]
  ·cases h
 ·cases h
theorem Vh {σ σ' : zo} {t : TypeId} {m k r : AV} {om ok : Operand} {ps : List zn} {a : Act} {o : Oper} {e : Operand → Value} (ho : o.op = .mapEntry t om ok) (hM : Mem E σ.nb σ.bl S ρ w) (hF : Yq w S ρ σ.n σ.tm a)
  (hD : wi E.w0.heap.size w S a.defers) (hm : zF w S ρ m (e om)) (hk : zF w S ρ k (e ok)) (h : xH P σ t m k = some (ps, σ', r)) (hp : ∀ p ∈ ps, p.holds) : Eff P E e o a w σ' r := by
 unfold xH at h
 split at h
 ·rename_i kt i cs hmt
  split at h
  ·rename_i ks f p q hB h0 h1
   cases h
   have hs := cd (hp _ (List.mem_cons_self ..))
   obtain ⟨hi, g, es, hg, hmv, c1, c2, c3⟩ := hM.map_at hB hm
   have hkv := o9 hk h0 h1
   obtain ⟨es', r1, r2, r3⟩ := Rm (P := P) (a := p) (b := q) hmt hs c1 c2
   obtain ⟨m1, m2⟩ := hM.map_write hi hg c1 r2 (f' := f) fun a b => by rw [r3]; exact c3 a b
   refine ⟨_, _, _, S, ρ, ?_, .inl rfl, m1, hF.mono m2 (zf.refl _), hD.mono m2, .tup #[xL p q es.toList, .int .i64 (Vs ks p q)] rfl fun j hj => ?_⟩
   ·simp only [execOp, ho, Sem.run_bind, hmv, hkv, r1, Result.andThen_ok, Sem.run_pure]
   ·obtain rfl | rfl : j = 0 ∨ j = 1 := by omega
    ·exact (c3 p q).mono m2 (zf.refl _)
    ·exact .v _
  ·cases h
 ·cases h
theorem vr {σ σ' : zo} {t : TypeId} {m s x : AV} {om os ox : Operand} {ps : List zn} {a : Act} {o : Oper} {e : Operand → Value} (ho : o.op = .entryStore t om os ox) (hM : Mem E σ.nb σ.bl S ρ w) (hF : Yq w S ρ σ.n σ.tm a)
  (hD : wi E.w0.heap.size w S a.defers) (hm : zF w S ρ m (e om)) (hk : zF w S ρ s (e os)) (hx : zF w S ρ x (e ox)) (h : Z8 σ m s x = some (ps, σ')) (hp : ∀ p ∈ ps, p.holds) : Eff P E e o a w σ' .junk := by
 unfold Z8 at h
 split at h
 ·rename_i i n
  split at h
  ·rename_i ks f hB
   cases h
   obtain ⟨hn0, hn⟩ := cd (hp _ (List.mem_cons_self ..))
   obtain ⟨z, rfl⟩ := Int.eq_ofNat_of_zero_le hn0
   obtain ⟨hi, g, es, hg, hmv, c1, c2, c3⟩ := hM.map_at hB hm
   have hkv := ZW hk
   obtain ⟨es', r1, r2, r3⟩ := tM (P := P) (t := t) (v := e ox) (n := z) c1 c2 (by omega)
   obtain ⟨m1, m2⟩ := hM.map_write hi hg c1 r2 (oJ hx c3 r3)
   refine ⟨_, undef, _, S, ρ, ?_, .inr ⟨rfl, rfl⟩, m1, hF.mono m2 (zf.refl _), hD.mono m2, .junk _⟩
   simp only [execOp, ho, Sem.run_bind, hmv, hkv, r1, Result.andThen_ok, Sem.run_pure]
  ·cases h
 ·cases h
end
end Go.Sx
