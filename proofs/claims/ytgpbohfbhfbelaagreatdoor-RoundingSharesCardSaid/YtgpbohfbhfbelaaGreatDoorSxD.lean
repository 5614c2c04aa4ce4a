/- That the model does what the symbolic operations say. -/
import Derived.Test.YtgpbohfbhfbelaaGreatDoorSxA
import Derived.WalkSpells
import Derived.Lib.SliceRun
import Derived.LaidEqlPtr
import Derived.Lib.Builder
import Derived.Great.FillDense
import Derived.Laws.Tables
set_option linter.unusedSimpArgs false
set_option linter.unusedVariables false
namespace Go.Sx
open Go Go.RowKit
section
variable {P : Program} {E : Env} {nb : Nat} {bl : Nat → OB} {S : Nat → Prop} {ρ : Nat → Own} {w : World}
theorem ZS {x : Value} {v : Value} (h : zE w S ρ (.v x) v) : v = x := by cases h; rfl
theorem Z8 {l : List UInt8} {v : Value} (h : zE w S ρ (.str l) v) : v = .string ⟨l.toArray⟩ := by cases h; rfl
theorem VO (l : List UInt8) : (⟨l.toArray⟩ : ByteArray).toList = l := by rw [Lib.toList_data]
theorem uC {x : AV} {v : Value} (hx : zE w S ρ x v) (h : od x = true) : v.oneCell' = true := by
 cases hx with
 | v x => exact h
 | dnp hd hx => obtain ⟨a, rfl⟩ := hx; rfl
 | dyl hd hx => obtain ⟨a, rfl⟩ := hx; rfl
 | dns hd hx => obtain ⟨a, b, rfl⟩ := hx; rfl
 | dap hd hx => obtain ⟨a, rfl⟩ := hx; rfl
 | agg => cases h
 | tup => cases h
 | gd => cases h
 | junk => cases h
 | er => cases h
 | ps => cases h
 | dps => cases h
 | _ => rfl
theorem cells_one {v : Value} (h : v.oneCell' = true) : v.cells = #[v] := by cases v <;> first | rfl | cases h
theorem xK {x : AV} {v : Value} {n : Nat} {cs : Nat → AV} (hx : zE w S ρ x v) (h : W4 x = some (n, cs)) :
  v.cells.size = n ∧ ∀ i, i < n → zE w S ρ (cs i) (v.cells.getD i undef) ∧ (v.cells.getD i undef).oneCell' = true := by
 have one : ∀ {x : AV}, zE w S ρ x v → (if od x then some (1, fun _ => x) else none) = some (n, cs) →
   v.cells.size = n ∧ ∀ i, i < n → zE w S ρ (cs i) (v.cells.getD i undef) ∧ (v.cells.getD i undef).oneCell' = true := by
  intro x hx h
  split at h
  ·rename_i ho
   cases h
   have h1 := uC hx ho
   rw [cells_one h1]
   simp_all
  ·cases h
 cases x with
 | agg m cs' =>
  simp only [W4] at h
  split at h
  ·rename_i ho
   cases h
   cases hx with
   | agg vs hn hr =>
    exact ⟨hn, fun i hi => ⟨hr i hi, uC (hr i hi) (X9 ho i hi)⟩⟩
  ·cases h
 | _ => exact one hx h
theorem SK {op : BinOp} {k : IntKind} {a b : Int} {ps : List zN} {r : AV} (t : TypeId) (h : PG op k a b = some (ps, r)) (hp : ∀ p ∈ ps, p.holds) :
  ∃ v, (binOp op t (.int k a) (.int k b)).run P w = .ok v w ∧ zE w S ρ r v := by
 cases op <;> simp only [PG] at h <;> first
  | (cases h; done)
  | (simp only [Option.some.injEq, Prod.mk.injEq] at h
     obtain ⟨rfl, rfl⟩ := h)
 case quo =>
  have h0 : b ≠ 0 := cd (hp _ (List.mem_cons_self ..))
  refine ⟨_, ?_, .v _⟩
  simp only [binOp, ne_eq, not_true_eq_false, if_false, Op.intDiv, h0, Sem.run_pure]
  rw [wG (cd (hp _ (by simp)))]
 case rem =>
  have h0 : b ≠ 0 := cd (hp _ (List.mem_cons_self ..))
  refine ⟨_, ?_, .v _⟩
  simp only [binOp, ne_eq, not_true_eq_false, if_false, Op.intDiv, h0, Sem.run_pure]
 all_goals
  refine ⟨_, ?_, .v _⟩
  simp [binOp, Op.intArith, Op.intCmp, LW, ML]
  try exact wG (cd (hp _ (by simp)))
theorem rQ {op : BinOp} {a b : List UInt8} {ps : List zN} {r : AV} (t : TypeId) (h : QP op a b = some (ps, r)) (hp : ∀ p ∈ ps, p.holds) :
  ∃ v, (binOp op t (.string ⟨a.toArray⟩) (.string ⟨b.toArray⟩)).run P w = .ok v w ∧ zE w S ρ r v := by
 cases op <;> simp only [QP] at h <;> first
  | (cases h; done)
  | skip
 all_goals
  simp only [Option.some.injEq, Prod.mk.injEq] at h
  obtain ⟨rfl, rfl⟩ := h
 case add =>
  refine ⟨.string ⟨(a ++ b).toArray⟩, ?_, .str _⟩
  have h0 := cd (hp _ (List.mem_cons_self ..))
  have e : ((⟨a.toArray⟩ : ByteArray) ++ ⟨b.toArray⟩) = ⟨(a ++ b).toArray⟩ := by
   rfl
  have hs : ¬ (((⟨a.toArray⟩ : ByteArray).size + (⟨b.toArray⟩ : ByteArray).size : Nat) : Int) > IntKind.i64.max := by
   simp only [Lib.size_eq, IntKind.max, IntKind.bits, IntKind.signed]
   simp; omega
  simp only [binOp, Op.stringOp]
  simp_all
 all_goals
  refine ⟨_, ?_, .v _⟩
  simp only [binOp, Op.stringOp, VO, Sem.run_pure]
theorem y8 {x : AV} {v : Value} (h : zE w S ρ x v) (hg : ∀ p ∈ x.gprop, p.holds) : zE w S ρ x.strip v := h.strip hg
theorem yI {t : TypeId} {sh : Option Nat} {cs : Array Value} {off : Nat} (hs : shapeOf P t = some sh)
  (hb : match sh with | none => off < cs.size | some m => off + m ≤ cs.size) :
  (part t cs off).run P w = .ok (match sh with | none => cs.getD off undef | some m => .agg (cs.extract off (off + m))) w := by
 unfold part
 cases sh with
 | none =>
  simp only [Sem.run_bind, sH hs, Result.andThen_ok, Bool.false_eq_true, if_false]
  simp_all
 | some m =>
  simp only [Sem.run_bind, (vr hs w).1, Result.andThen_ok, if_true, (vr hs w).2]
  rfl
theorem TV {xs ys : Nat → AV} {vs us : Array Value} {fs : List Field} {r : Bool} {c : Nat} (d : Nat) (h : L9 P xs ys fs = some r)
  (hx : ∀ i, i < c → zE w S ρ (xs i) (vs.getD i undef)) (hy : ∀ i, i < c → zE w S ρ (ys i) (us.getD i undef)) (hv : vs.size = c) (hu : us.size = c)
  (hf : ∀ f ∈ fs, f.offset < c) : (Op.eqFields (d + 1) vs us fs).run P w = .ok r w := by
 induction fs generalizing r with
 | nil => cases h; rfl
 | cons f fs ih =>
  have ho := hf f (List.mem_cons_self ..)
  simp only [L9] at h
  split at h
  ·cases h
  ·rename_i hn
   have hsh : ∀ {d}, P.underlying f.type = some d → (∀ x, d ≠ .struct x) → (∀ x y, d ≠ .array x y) → shapeOf P f.type = some none := by
    intro d hd h1 h2
    unfold shapeOf
    simp_all
   have hne : f.name ≠ "_" := hn
   simp only [Op.eqFields, hne, ne_eq, not_false_eq_true, if_true]
   split at h
   ·rename_i k0 k a k' b r' hd hxx hyy hr
    split at h
    ·rename_i hk
     cases h
     have s := hsh hd (by simp) (by simp)
     have e1 := ZS (hxx ▸ hx _ ho)
     have e2 := ZS (hyy ▸ hy _ ho)
     simp only [Sem.run_bind, yI (sh := none) s (by rw [hv]; exact ho), yI (sh := none) s (by rw [hu]; exact ho), Result.andThen_ok, e1, e2]
     rw [hk, run_equalIn_int w d f.type k' k0 a b hd]
     simp only [Result.andThen_ok]
     have := ih hr (fun f' hf' => hf f' (List.mem_cons_of_mem _ hf'))
     cases hab : (a == b) <;> simp [this]
    ·cases h
   ·rename_i a b r' hd hxx hyy hr
    cases h
    have s := hsh hd (by simp) (by simp)
    have e1 := ZS (hxx ▸ hx _ ho)
    have e2 := ZS (hyy ▸ hy _ ho)
    simp only [Sem.run_bind, yI (sh := none) s (by rw [hv]; exact ho), yI (sh := none) s (by rw [hu]; exact ho), Result.andThen_ok, e1, e2]
    rw [run_equalIn_bool' w d f.type a b hd]
    simp only [Result.andThen_ok]
    have := ih hr (fun f' hf' => hf f' (List.mem_cons_of_mem _ hf'))
    cases hab : (a == b) <;> simp [this]
   ·rename_i a b r' hd hxx hyy hr
    cases h
    have s := hsh hd (by simp) (by simp)
    have e1 := Z8 (hxx ▸ hx _ ho)
    have e2 := Z8 (hyy ▸ hy _ ho)
    simp only [Sem.run_bind, yI (sh := none) s (by rw [hv]; exact ho), yI (sh := none) s (by rw [hu]; exact ho), Result.andThen_ok, e1, e2]
    rw [run_equalIn_string w d f.type _ _ hd]
    simp only [Result.andThen_ok, VO]
    have := ih hr (fun f' hf' => hf f' (List.mem_cons_of_mem _ hf'))
    cases hab : (a == b) <;> simp [this]
   ·cases h
theorem qY {op : BinOp} {t : TypeId} {x y r : AV} {ps : List zN} {a b : Value} (ox oy : Operand) (h : N0 P op t x y = some (ps, r)) (hp : ∀ p ∈ ps, p.holds)
  (hx : zE w S ρ x a) (hy : zE w S ρ y b) :
  ∃ v, (do eqGuard op t ox oy a b; binOp op t a b : Sem Value).run P w = .ok v w ∧ zE w S ρ r v := by
 have plain : ∀ {a b : Value}, (∀ x y, ¬ (a = .agg x ∧ b = .agg y)) → (a ≠ .nilIface) → (eqGuard op t ox oy a b).run P w = .ok () w := by
  intro a b h1 h2
  unfold eqGuard
  simp_all
 unfold N0 at h
 split at h
 ·rename_i k a' k' b'
  split at h
  ·rename_i hk
   subst hk
   obtain rfl := ZS hx
   obtain rfl := ZS hy
   simp only [Sem.run_bind, plain (a := .int k a') (b := .int k b') (by simp) (by simp), Result.andThen_ok]
   exact SK t h hp
  ·cases h
 ·rename_i a' b'
  obtain rfl := Z8 hx
  obtain rfl := Z8 hy
  simp only [Sem.run_bind, plain (a := .string _) (b := .string _) (by simp) (by simp), Result.andThen_ok]
  exact rQ t h hp
 ·rename_i a' b'
  obtain rfl := ZS hx
  obtain rfl := ZS hy
  simp only [Sem.run_bind, plain (a := .bool _) (b := .bool _) (by simp) (by simp), Result.andThen_ok]
  split at h
  ·rename_i hu
   split at h
   ·cases h
    refine ⟨_, ?_, .v _⟩
    simp [binOp, Op.equal, Op.maxDepth, run_equalIn_bool' w 9999 t a' b' hu]
   ·cases h
    refine ⟨_, ?_, .v _⟩
    simp [binOp, Op.equal, Op.maxDepth, run_equalIn_bool' w 9999 t a' b' hu]
   ·cases h
  ·cases h
 ·rename_i n xs m ys
  cases hx with
  | agg vs hn hvr =>
   cases hy with
   | agg us hm hur =>
    split at h
    ·rename_i fs hu
     split at h
     ·rename_i hc
      obtain ⟨c1, c2, c3⟩ := hc
      have hfs : P.fieldsOf t = fs := by unfold Program.fieldsOf; rw [hu]
      have hu' : P.underlying t = some (.struct (P.fieldsOf t)) := by rw [hfs]; exact hu
      have hoff : ∀ f ∈ fs.toList, f.offset < P.cellsOf t := fun f hf => by
       have := Array.all_eq_true_iff_forall_mem.1 c3 f (by simpa using hf)
       simp_all
      split at h
      ·rename_i r' hr
       cases h
       have g1 := cd (hp _ (List.mem_cons_self ..))
       have g2 := cd (hp _ (List.mem_cons_of_mem _ (List.mem_cons_self ..)))
       simp only [Sem.run_bind, run_eqGuard_agg w _ t ox oy vs us g2, Result.andThen_ok]
       refine ⟨_, ?_, .v _⟩
       rw [run_eql_struct, run_equalIn_agg w 9999 t vs us hu' g1, hfs,
        TV (c := P.cellsOf t) 9998 hr (by rw [← c1]; exact hvr) (by rw [← c2]; exact hur) (hn.trans c1) (hm.trans c2) hoff]
       rfl
      ·rename_i r' hr
       cases h
       have g1 := cd (hp _ (List.mem_cons_self ..))
       have g2 := cd (hp _ (List.mem_cons_of_mem _ (List.mem_cons_self ..)))
       simp only [Sem.run_bind, run_eqGuard_agg w _ t ox oy vs us g2, Result.andThen_ok]
       refine ⟨_, ?_, .v _⟩
       rw [run_neq_struct, run_equalIn_agg w 9999 t vs us hu' g1, hfs,
        TV (c := P.cellsOf t) 9998 hr (by rw [← c1]; exact hvr) (by rw [← c2]; exact hur) (hn.trans c1) (hm.trans c2) hoff]
       rfl
      ·cases h
     ·cases h
    ·cases h
 ·cases h
theorem wv (d : Nat) {t e : TypeId} (h : P.underlying t = some (.pointer e)) : (Op.equalIn (d + 1) t (.pointer none) (.pointer none)).run P w = .ok true w := by
 simp [Op.equalIn, run_underlying h]
theorem wV (d : Nat) {t e : TypeId} (p : Addr) (h : P.underlying t = some (.pointer e)) : (Op.equalIn (d + 1) t (.pointer (some p)) (.pointer none)).run P w = .ok false w := by
 simp [Op.equalIn, run_underlying h]
theorem ud {t : TypeId} {a b : Option Addr} {r : Bool} (h : ∀ d : Nat, (Op.equalIn (d + 1) t (.pointer a) (.pointer b)).run P w = .ok r w) : (binOp .eql t (.pointer a) (.pointer b)).run P w = .ok (.bool r) w := by
 simp only [binOp]
 simp [Op.equal, Op.maxDepth, h 9999]
theorem uE {t : TypeId} {a b : Option Addr} {r : Bool} (h : ∀ d : Nat, (Op.equalIn (d + 1) t (.pointer a) (.pointer b)).run P w = .ok r w) : (binOp .neq t (.pointer a) (.pointer b)).run P w = .ok (.bool (!r)) w := by
 simp only [binOp]
 simp [Op.equal, Op.maxDepth, h 9999]
theorem Qj {op : BinOp} {t : TypeId} {x y r : AV} {ps : List zN} {a b : Value} (ox oy : Operand) (hM : Mem E nb bl S ρ w) (h : Rn P bl op t x y = some (ps, r)) (hp : ∀ p ∈ ps, p.holds)
  (hx : zE w S ρ x a) (hy : zE w S ρ y b) :
  ∃ v, (do eqGuard op t ox oy a b; binOp op t a b : Sem Value).run P w = .ok v w ∧ zE w S ρ r v := by
 have plain : ∀ {a b : Value}, (∀ x y, ¬ (a = .agg x ∧ b = .agg y)) → (a ≠ .nilIface) → (eqGuard op t ox oy a b).run P w = .ok () w := by
  intro a b h1 h2
  unfold eqGuard
  simp_all
 unfold Rn at h
 split at h
 ·rename_i k' b'
  obtain rfl := ZS hy
  split at h
  ·rename_i k a'
   obtain rfl := ZS hx
   simp only [Sem.run_bind, plain (a := .int k a') (b := .int k' b') (by simp) (by simp), Result.andThen_ok]
   split at h
   ·cases h
    have h0 : 0 ≤ b' := cd (hp _ (List.mem_cons_self ..))
    refine ⟨_, ?_, .v _⟩
    simp only [binOp, Op.shift]
    rw [if_neg (by omega)]
    rfl
   ·cases h
    have h0 : 0 ≤ b' := cd (hp _ (List.mem_cons_self ..))
    refine ⟨_, ?_, .v _⟩
    simp only [binOp, Op.shift]
    rw [if_neg (by omega)]
    rfl
   ·split at h
    ·rename_i hk
     subst hk
     obtain ⟨n, h1, h2⟩ := Option.map_eq_some_iff.1 h
     cases h2
     refine ⟨_, ?_, .v _⟩
     unfold JQ at h1
     split at h1 <;> first | (cases h1; done) | skip
     all_goals
      cases h1
      simp only [binOp, Op.intBits, ne_eq, not_true_eq_false, if_false]
      rfl
    ·cases h
  ·cases h
 ·obtain rfl := ZS hy
  have sl : ∀ z, vK bl x = some z → ∃ o n c, a = .slice o n c ∧ (o.isNone = true → z = true) := fun z hz => by
   unfold vK at hz
   split at hz
   ·rename_i full sz len els
    split at hz
    ·rename_i h0
     cases hz
     cases hx with
     | xl o cap cvs hle hm hf hc hr =>
      refine ⟨o, len, cap, rfl, fun ho => ?_⟩
      cases len with
      | zero => rfl
      | succ n =>
       obtain ⟨A, e, _⟩ := hc 0 0 (Nat.succ_pos _) h0
       simp_all
    ·cases hz
   ·rename_i k off len
    split at hz
    ·rename_i e1 e2 e3 e4 hB
     cases hz
     cases hx with
     | ns g base cap sz L hk hl hc => simp
     | ns0 g base cap sz L A hk hl hc h0 => simp
     | nsn sz o hk => simp
     | dns hd hsh =>
      have hb := (hM.at k).resolve_left (by rw [hd]; simp)
      rw [hB, hd] at hb
      exact hb.elim
    ·cases hz
   ·cases hz
  split at h
  ·rename_i el hu
   obtain ⟨z, h1, h2⟩ := Option.map_eq_some_iff.1 h
   cases h2
   obtain ⟨o, n, c, rfl, hz⟩ := sl z h1
   simp only [Sem.run_bind, plain (a := .slice o n c) (b := .slice none 0 0) (by simp) (by simp), Result.andThen_ok]
   exact ⟨_, Lib.run_eql_slice_nil w t el o n c 0 0 hu, .nb _ fun e => hz (by simp at e; simp [e])⟩
  ·rename_i el hu
   obtain ⟨z, h1, h2⟩ := Option.map_eq_some_iff.1 h
   cases h2
   obtain ⟨o, n, c, rfl, hz⟩ := sl z h1
   simp only [Sem.run_bind, plain (a := .slice o n c) (b := .slice none 0 0) (by simp) (by simp), Result.andThen_ok]
   exact ⟨_, run_neq_slice_nil_any w t el o n c 0 0 hu, .nb _ fun e => hz (by simp at e; simp [e])⟩
  ·cases h
 ·obtain rfl := ZS hy
  have pt : NK x = true → ∃ p, a = .pointer (some p) := fun hi => by
   cases hx with
   | np g hk => simp
   | ap g base cap sz L hk hi hc => simp
   | xq A cvs hc hr => simp
   | dnp hd hsh => exact hsh
   | dap hd hsh => exact hsh
   | _ => cases hi
  split at h
  ·rename_i el hu
   cases h
   obtain rfl := ZS hx
   simp only [Sem.run_bind, plain (a := .pointer none) (b := .pointer none) (by simp) (by simp), Result.andThen_ok]
   exact ⟨_, ud fun d => wv d hu, .v _⟩
  ·rename_i el hu
   cases h
   obtain rfl := ZS hx
   simp only [Sem.run_bind, plain (a := .pointer none) (b := .pointer none) (by simp) (by simp), Result.andThen_ok]
   exact ⟨_, uE fun d => wv d hu, .v _⟩
  ·rename_i el hu _
   split at h
   ·rename_i hi
    cases h
    obtain ⟨p, rfl⟩ := pt hi
    simp only [Sem.run_bind, plain (a := .pointer (some p)) (b := .pointer none) (by simp) (by simp), Result.andThen_ok]
    exact ⟨_, ud fun d => wV d p hu, .v _⟩
   ·cases h
  ·rename_i el hu _
   split at h
   ·rename_i hi
    cases h
    obtain ⟨p, rfl⟩ := pt hi
    simp only [Sem.run_bind, plain (a := .pointer (some p)) (b := .pointer none) (by simp) (by simp), Result.andThen_ok]
    exact ⟨_, uE fun d => wV d p hu, .v _⟩
   ·cases h
  ·cases h
 ·rename_i k' o'
  split at h
  ·rename_i el k o tb nb' cells hu hB
   split at h
   ·rename_i hc
    obtain ⟨rfl, rfl, hi⟩ := hc
    obtain ⟨i, hi⟩ := Option.isSome_iff_exists.1 hi
    have same : ∃ g, a = .pointer (some g) ∧ b = .pointer (some g) := by
     have live : ρ k ≠ .dead := fun hd => by
      have hb := (hM.at k).resolve_left (by rw [hd]; simp)
      rw [hB, hd] at hb
      exact hb.elim
     cases hx with
     | np g hk =>
      cases hy with
      | np g' hk' => simp_all
      | dnp hd hsh => simp_all
     | dnp hd hsh => simp_all
    obtain ⟨g, rfl, rfl⟩ := same
    simp only [Sem.run_bind, plain (a := .pointer (some g)) (b := .pointer (some g)) (by simp) (by simp), Result.andThen_ok]
    split at h
    ·cases h; exact ⟨_, run_eql_ptr_same w g hu hi, .v _⟩
    ·cases h; exact ⟨_, Lib.run_neq_ptr_same w g hu hi, .v _⟩
    ·cases h
   ·cases h
  ·cases h
 ·cases h
theorem p9 {op : BinOp} {t : TypeId} {x y r : AV} {ps : List zN} {a b : Value} (ox oy : Operand) (hM : Mem E nb bl S ρ w) (h : NY P bl op t x y = some (ps, r)) (hp : ∀ p ∈ ps, p.holds)
  (hx : zE w S ρ x a) (hy : zE w S ρ y b) :
  ∃ v, (do eqGuard op t ox oy a b; binOp op t a b : Sem Value).run P w = .ok v w ∧ zE w S ρ r v := by
 unfold NY at h
 split at h
 ·cases h
  exact Qj ox oy hM ‹_› hp hx hy
 ·exact qY ox oy h hp hx hy
theorem tF {place : Nat → Option (Nat × Nat)} {n : Nat} : ∀ (parts : List (Nat × AV)) (vals : List (Nat × Value)) (cs cs' : Nat → AV) (c : Array Value), c.size = n → (∀ j, j < n → zE w S ρ (cs j) (c.getD j undef)) →
  parts.length = vals.length → (∀ (i : Nat) (p : Nat × AV) (v : Nat × Value), parts[i]? = some p → vals[i]? = some v → p.1 = v.1 ∧ zE w S ρ p.2 v.2) → rn place n cs parts = some cs' →
  ∃ c', Instr.fill place c vals = some c' ∧ c'.size = n ∧ ∀ j, j < n → zE w S ρ (cs' j) (c'.getD j undef)
 | [], [], cs, cs', c, hn, hc, _, _, h => by cases h; exact ⟨c, rfl, hn, hc⟩
 | [], _ :: _, _, _, _, _, _, hl, _, _ => by cases hl
 | _ :: _, [], _, _, _, _, _, hl, _, _ => by cases hl
 | (i, x) :: parts, (i', v) :: vals, cs, cs', c, hn, hc, hl, hr, h => by
  obtain ⟨e, hx⟩ := hr 0 _ _ rfl rfl
  simp only at e hx
  subst e
  simp only [rn] at h
  split at h
  ·rename_i off size m ys hpl hce
   split at h
   ·rename_i hcc
    obtain ⟨c1, c2⟩ := hcc
    subst c1
    obtain ⟨k1, k2⟩ := xK hx hce
    obtain ⟨g1, g2⟩ := Great.foldl_set off v.cells.toList 0 c
    have hz : v.cells.zipIdx.foldl (fun cs (c, j) => cs.setIfInBounds (off + j) c) c = (v.cells.toList.zipIdx 0).foldl (fun cs (x : Value × Nat) => cs.setIfInBounds (off + x.2) x.1) c := by
     rw [← Array.foldl_toList]
     simp
    obtain ⟨c', q1, q2, q3⟩ := tF parts vals (fun j => bif Nat.ble off j && Nat.blt j (off + m) then ys (j - off) else cs j) cs' ((v.cells.toList.zipIdx 0).foldl (fun cs (x : Value × Nat) => cs.setIfInBounds (off + x.2) x.1) c)
     (by rw [g1, hn]) (fun j hj => by
      rw [Array.getD_eq_getD_getElem?, g2]
      simp only [Nat.add_zero, Array.length_toList]
      by_cases hin : off ≤ j ∧ j < off + m
      ·have e1 : (Nat.ble off j && Nat.blt j (off + m)) = true := by
        rw [Bool.and_eq_true]; exact ⟨Nat.ble_eq_true_of_le hin.1, Nat.ble_eq_true_of_le hin.2⟩
       rw [e1, if_pos ⟨hin.1, by rw [k1]; exact hin.2, by omega⟩]
       have := (k2 (j - off) (by omega)).1
       rw [Array.getD_eq_getD_getElem?] at this
       grind
      ·have e1 : (Nat.ble off j && Nat.blt j (off + m)) = false := by
        cases hb : (Nat.ble off j && Nat.blt j (off + m)) with
        | false => rfl
        | true =>
         rw [Bool.and_eq_true] at hb
         exact absurd ⟨Nat.le_of_ble_eq_true hb.1, Nat.le_of_ble_eq_true hb.2⟩ hin
       rw [e1, if_neg (by rw [k1]; omega)]
       have := hc j hj
       rw [Array.getD_eq_getD_getElem?] at this
       exact this)
     (by simpa using hl) (fun j p v hp hv => hr (j + 1) p v (by simpa using hp) (by simpa using hv)) h
    refine ⟨c', ?_, q2, q3⟩
    unfold Instr.fill
    grind
   ·cases h
  ·cases h
theorem qZ {t : TypeId} {parts : List (Nat × AV)} {vals : Array (Nat × Value)} {r : AV} (h : rX P t parts = some r) (hl : parts.length = vals.toList.length)
  (hr : ∀ (i : Nat) (p : Nat × AV) (v : Nat × Value), parts[i]? = some p → vals.toList[i]? = some v → p.1 = v.1 ∧ zE w S ρ p.2 v.2) : ∃ v, (Instr.build t vals).run P w = .ok v w ∧ zE w S ρ r v := by
 unfold rX at h
 split at h
 ·rename_i it place hi hpl
  split at h
  ·rename_i z hz
   obtain ⟨cs, h1, h2⟩ := Option.map_eq_some_iff.1 h
   cases h2
   obtain ⟨c', q1, q2, q3⟩ := tF parts vals.toList _ cs z.cells rfl (fun j hj => by first | (rw [Nr hj]; exact zE.const _) | exact zE.const _) hl hr h1
   refine ⟨_, run_build w t vals c' ?_, .agg c' q2 fun i hi => by rw [Ua hi]; exact q3 i hi⟩
   unfold placesOf at hpl
   unfold Program.built
   rw [hi]
   split at hpl
   ·rename_i e hu
    rw [hu]
    obtain ⟨ie, e1, e2⟩ := Option.map_eq_some_iff.1 hpl
    simp_all
   ·rename_i fs hu
    rw [hu]
    obtain ⟨pl, e1, e2⟩ := Option.map_eq_some_iff.1 hpl
    simp_all
   ·cases hpl
  ·cases h
 ·cases h
end
end Go.Sx

namespace Go.Sx
open Go Go.RowKit
section
variable {P : Program} {E : Env} {nb : Nat} {bl : Nat → OB} {S : Nat → Prop} {ρ : Nat → Own} {w : World}
theorem PS {op : UnOp} {x r : AV} {ps : List zN} {a : Value} (h : iL op x = some (ps, r)) (hp : ∀ p ∈ ps, p.holds) (hx : zE w S ρ x a) :
  ∃ v, (Op.unary op a).run P w = .ok v w ∧ zE w S ρ r v := by
 unfold iL at h
 split at h
 ·cases h
  obtain rfl := ZS hx
  exact ⟨_, rfl, .v _⟩
 ·rename_i p z
  cases h
  cases hx with
  | nb t ht => exact ⟨_, rfl, .nb (!t) fun e => ht (by cases t <;> cases p <;> simp_all)⟩
 ·rename_i k n
  cases h
  obtain rfl := ZS hx
  refine ⟨.int k (-n), ?_, .v _⟩
  have := wG (cd (hp _ (List.mem_cons_self ..)))
  simp only [Op.unary, Op.intArith, Sem.run_pure]
  simp_all
 ·cases h
theorem rZ {s d : TypeId} {x r : AV} {ps : List zN} {a : Value} (h : PZ P s d x = some (ps, r)) (hp : ∀ p ∈ ps, p.holds) (hx : zE w S ρ x a) :
  ∃ v, (convert s d a).run P w = .ok v w ∧ zE w S ρ r v := by
 unfold PZ at h
 split at h
 ·rename_i ds k k' n hs hd
  cases h
  obtain rfl := ZS hx
  refine ⟨_, ?_, .v _⟩
  have := wG (cd (hp _ (List.mem_cons_self ..)))
  simp [convert, run_underlying hs, run_underlying hd, Conv.intToInt, this]
 ·rename_i ds l hs hd
  cases h
  obtain rfl := Z8 hx
  refine ⟨_, ?_, .str l⟩
  simp only [convert, Sem.run_bind, run_underlying hs, run_underlying hd, Result.andThen_ok]
  rfl
 ·cases h
theorem td {t : TypeId} {f d : Nat} (h : TX P t f = some d) (a : Addr) :
  (Instr.fieldAt t (.pointer (some a)) f).run P w = .ok (.pointer (some (a.add d))) w := by
 unfold TX at h
 split at h
 ·rename_i fs hu
  split at h
  ·rename_i fd hf
   split at h
   ·rename_i i hi
    split at h
    ·cases h
    ·rename_i h0
     cases h
     have hc : ¬ P.cellsOf fd.type = 0 := by simp [Program.cellsOf, hi, h0]
     simp only [Instr.fieldAt, Sem.run_bind, run_underlying hu, Result.andThen_ok, hf, Instr.sureAddr, Sem.run_pure, fieldPlace, run_sizeOf w hi, hc, if_false]
   ·cases h
  ·cases h
 ·cases h
theorem Mem.box (hM : Mem E nb bl S ρ w) {k : Nat} (h : R8 (bl k) = true) (h0 : ρ k = .dead) : False := by
 have hb := (hM.at k).resolve_left (by rw [h0]; simp)
 rw [h0] at hb
 cases hB : bl k <;> rw [hB] at hb h <;> first | exact hb.elim | cases h
theorem Mem.arr (hM : Mem E nb bl S ρ w) {k : Nat} (h : qu (bl k) = true) (h0 : ρ k = .dead) : False := by
 have hb := (hM.at k).resolve_left (by rw [h0]; simp)
 rw [h0] at hb
 cases hB : bl k <;> rw [hB] at hb h <;> first | exact hb.elim | cases h
theorem nY {x r : AV} {a : Value} {d : Nat} (hM : Mem E nb bl S ρ w) (h : x.shift bl d = some r) (hx : zE w S ρ x a) :
  ∃ p, a = .pointer (some p) ∧ zE w S ρ r (.pointer (some (p.add d))) := by
 cases hx with
 | np g hk =>
  simp only [AV.shift] at h
  split at h
  ·cases h
   exact ⟨_, rfl, by rw [add_lit]; exact .np g hk⟩
  ·cases h
 | ap g base cap sz L hk hi hc =>
  simp only [AV.shift] at h
  split at h
  ·cases h
   exact ⟨_, rfl, by rw [add_lit, Nat.add_assoc]; exact .ap g base cap sz L hk hi hc⟩
  ·cases h
 | xq A cvs hc hr =>
  cases h
  exact ⟨_, rfl, by rw [Xo]; exact .xq A cvs hc hr⟩
 | dnp hd hsh =>
  simp only [AV.shift] at h
  split at h
  ·rename_i hb; exact (hM.box hb hd).elim
  ·cases h
 | dap hd hsh =>
  simp only [AV.shift] at h
  split at h
  ·rename_i hb; exact (hM.arr hb hd).elim
  ·cases h
 | _ => simp [AV.shift] at h
theorem jz {x r : AV} {a : Value} (hM : Mem E nb bl S ρ w) (h : WT bl x = some r) (hx : zE w S ρ x a) :
  zE w S ρ r a ∧ ((∃ p, a = .pointer (some p)) ∨ ∃ f vs us, a = .func (.func f) vs us) := by
 cases hx with
 | np g hk =>
  simp only [WT] at h
  split at h
  ·cases h; exact ⟨.np g hk, .inl ⟨_, rfl⟩⟩
  ·cases h
 | ap g base cap sz L hk hi hc =>
  simp only [WT] at h
  split at h
  ·cases h; exact ⟨.ap g base cap sz L hk hi hc, .inl ⟨_, rfl⟩⟩
  ·cases h
 | xq A cvs hc hr => cases h; exact ⟨.xq A cvs hc hr, .inl ⟨_, rfl⟩⟩
 | @fn _ f nf fi nc ca vs us hn hm hr hs =>
  cases f with
  | func f =>
   cases h
   exact ⟨.fn vs us hn hm hr hs, .inr ⟨_, _, _, rfl⟩⟩
  | _ => simp [WT] at h
 | dnp hd hsh =>
  simp only [WT] at h
  split at h
  ·rename_i hb; exact (hM.box hb hd).elim
  ·cases h
 | dap hd hsh =>
  simp only [WT] at h
  split at h
  ·rename_i hb; exact (hM.arr hb hd).elim
  ·cases h
 | _ => simp [WT] at h
theorem Td {t : TypeId} {f : Nat} {x r : AV} {a : Value} (h : S6 P t f x = some r) (hx : zE w S ρ x a) :
  ∃ v, (Instr.field t a f).run P w = .ok v w ∧ zE w S ρ r v := by
 unfold S6 at h
 split at h
 ·rename_i fs n cs hu
  cases hx with
  | agg vs hn hr =>
   split at h
   ·rename_i fd hf
    split at h
    ·rename_i hs
     split at h
     ·rename_i hlt
      cases h
      refine ⟨_, ?_, hr _ hlt⟩
      simp only [Instr.field, Sem.run_bind, run_underlying hu, Result.andThen_ok, hf, asAgg, Sem.run_pure]
      exact yI (sh := none) hs (by rw [hn]; exact hlt)
     ·cases h
    ·rename_i m hs
     split at h
     ·rename_i hlt
      cases h
      refine ⟨.agg (vs.extract fd.offset (fd.offset + m)), ?_, .agg _ (by simp; omega) fun i hi => ?_⟩
      ·simp only [Instr.field, Sem.run_bind, run_underlying hu, Result.andThen_ok, hf, asAgg, Sem.run_pure]
       exact yI (sh := some m) hs (by rw [hn]; exact hlt)
      ·have := hr (fd.offset + i) (by omega)
       have e : (vs.extract fd.offset (fd.offset + m)).getD i undef = vs.getD (fd.offset + i) undef := by
        simp only [Array.getD_eq_getD_getElem?, Array.getElem?_extract]
        simp_all
       simp_all
     ·cases h
    ·cases h
   ·cases h
 ·cases h
theorem Wd {n : Int} {len : Nat} (h : 0 ≤ n ∧ n < (len : Int)) : n.toNat < len := by omega
theorem UZ {t : TypeId} {x ix r : AV} {a b : Value} {ps : List zN} (hM : Mem E nb bl S ρ w) (h : YB P bl t x ix = some (ps, r)) (hp : ∀ p ∈ ps, p.holds)
  (hx : zE w S ρ x a) (hi : zE w S ρ ix b) : ∃ v, (Instr.indexAt t a b).run P w = .ok v w ∧ zE w S ρ r v := by
 unfold YB at h
 split at h
 ·rename_i k n
  obtain rfl := ZS hi
  split at h
  ·rename_i e hu
   split at h
   ·rename_i i full sz len els hi'
    split at h
    ·rename_i hc
     obtain ⟨hc1, hc2⟩ := hc
     cases h
     have hb := cd (hp _ (List.mem_cons_self ..))
     have hn := Wd hb
     cases hx with
     | xl o cap cvs hle hm hf hcell hrel =>
      obtain ⟨A, rfl, _, _, _⟩ := hcell n.toNat 0 hn hc2
      refine ⟨.pointer (some (A.add (n.toNat * sz))), ?_, ?_⟩
      ·simp only [Instr.indexAt, asIntOf, Sem.run_bind, run_underlying hu, Result.andThen_ok, Sem.run_pure, hb, and_self, if_true, run_sizeOf w hi']
       simp [Program.cellsOf, hi', hc1]
      ·have := zE.xq (w := w) (S := S) (ρ := ρ) (n := sz) (cells := els n.toNat) (off := 0) (A.add (n.toNat * sz)) (cvs n.toNat)
        (fun j hj => by
         obtain ⟨A', e', h1, h2, h3⟩ := hcell n.toNat j hn hj
         cases e'
         exact ⟨by rw [yS]; exact h1, by rw [Xo]; exact h2, h3⟩)
        (fun j hj => hrel n.toNat j hn hj)
       assumption
    ·cases h
   ·rename_i i kk off len hi'
    split at h
    ·rename_i t' sz L els hB
     split at h
     ·rename_i hc
      cases h
      have hb := cd (hp _ (List.mem_cons_self ..))
      have hn := Wd hb
      have hbk := hM.at kk
      cases hx with
      | ns g base cap sz' L' hk hl hcap =>
       have hbk := hbk.resolve_left (by rw [hk]; simp)
       rw [hB, hk] at hbk
       obtain ⟨e1, e2, _⟩ := hbk
       subst e1; subst e2
       refine ⟨.pointer (some ⟨g, (base + (off + n.toNat)) * sz' + 0, none⟩), ?_, .ap g base cap sz' L' hk (by omega) hcap⟩
       simp only [Instr.indexAt, asIntOf, Sem.run_bind, run_underlying hu, Result.andThen_ok, Sem.run_pure, hb, and_self, if_true, run_sizeOf w hi']
       rw [add_lit]
       simp only [Program.cellsOf, hi', Option.map_some, Option.getD_some, hc, Nat.add_zero, ← Nat.add_mul, Nat.add_assoc]
      | ns0 => omega
      | nsn => omega
      | dns hd hsh => exact (hM.arr (by rw [hB]; rfl) hd).elim
     ·cases h
    ·cases h
   ·rename_i i kk len hi'
    split at h
    ·rename_i hc
     obtain ⟨hc1, hc2⟩ := hc
     cases h
     have hb := cd (hp _ (List.mem_cons_self ..))
     cases hx with
     | ps g cap hk hcap =>
      refine ⟨.pointer (some ⟨g, n.toNat, none⟩), ?_, .np g hk⟩
      simp only [Instr.indexAt, asIntOf, Sem.run_bind, run_underlying hu, Result.andThen_ok, Sem.run_pure, hb, and_self, if_true, run_sizeOf w hi']
      rw [add_lit]
      simp only [Program.cellsOf, hi', Option.map_some, Option.getD_some, hc1, Nat.mul_one, Nat.zero_add]
     | dps hd hsh => exact (hM.box hc2 hd).elim
    ·cases h
   ·cases h
  ·rename_i N e hu
   split at h
   ·rename_i i kk a' hi'
    split at h
    ·rename_i t' sz L els hB
     split at h
     ·rename_i hc
      obtain ⟨hc1, hc2⟩ := hc
      cases h
      have hb := cd (hp _ (List.mem_cons_self ..))
      have hn := Wd hb
      have hbk := hM.at kk
      cases hx with
      | ap g base cap sz' L' hk hi2 hcap =>
       have hbk := hbk.resolve_left (by rw [hk]; simp)
       rw [hB, hk] at hbk
       obtain ⟨e1, e2, _⟩ := hbk
       subst e1; subst e2
       refine ⟨.pointer (some ⟨g, (base + (a' + n.toNat)) * sz' + 0, none⟩), ?_, .ap g base cap sz' L' hk (by omega) hcap⟩
       simp only [Instr.indexAt, asIntOf, Sem.run_bind, run_underlying hu, Result.andThen_ok, Sem.run_pure, Instr.sureAddr, hb, and_self, if_true, run_sizeOf w hi']
       rw [add_lit]
       simp only [Program.cellsOf, hi', Option.map_some, Option.getD_some, hc1, Nat.add_zero, ← Nat.add_mul, Nat.add_assoc]
      | dap hd hsh => exact (hM.arr (by rw [hB]; rfl) hd).elim
     ·cases h
    ·cases h
   ·rename_i i kk off hi'
    split at h
    ·rename_i hc
     obtain ⟨hc1, hc2⟩ := hc
     cases h
     have hb := cd (hp _ (List.mem_cons_self ..))
     cases hx with
     | np g hk =>
      refine ⟨.pointer (some ⟨g, off + n.toNat, none⟩), ?_, .np g hk⟩
      simp only [Instr.indexAt, asIntOf, Sem.run_bind, run_underlying hu, Result.andThen_ok, Sem.run_pure, Instr.sureAddr, hb, and_self, if_true, run_sizeOf w hi']
      rw [add_lit]
      simp only [Program.cellsOf, hi', Option.map_some, Option.getD_some, hc1, Nat.mul_one]
     | dnp hd hsh => exact (hM.box hc2 hd).elim
    ·cases h
   ·cases h
  ·cases h
 ·cases h
theorem T2 {t : TypeId} {x ix r : AV} {a b : Value} {ps : List zN} (h : rY P t x ix = some (ps, r)) (hp : ∀ p ∈ ps, p.holds)
  (hx : zE w S ρ x a) (hi : zE w S ρ ix b) : ∃ v, (Instr.index t a b).run P w = .ok v w ∧ zE w S ρ r v := by
 unfold rY at h
 split at h
 ·rename_i l k n hu
  cases h
  obtain rfl := ZS hi
  obtain rfl := Z8 hx
  have hb := cd (hp _ (List.mem_cons_self ..))
  have hn := Wd hb
  refine ⟨_, ?_, .v _⟩
  have e : (⟨l.toArray⟩ : ByteArray)[n.toNat]? = some (l.getD n.toNat 0) := by
   have hs : n.toNat < (⟨l.toArray⟩ : ByteArray).size := by rw [Lib.size_eq]; simpa using hn
   rw [getElem?_pos (⟨l.toArray⟩ : ByteArray) n.toNat hs]
   congr 1
   simp [List.getD, hn]
   rfl
  simp only [Instr.index, asIntOf, Sem.run_bind, run_underlying hu, Result.andThen_ok, Sem.run_pure, hb.1, if_true, e]
 ·rename_i N e m cs k n hu
  obtain rfl := ZS hi
  split at h
  ·rename_i i hi' hs
   split at h
   ·rename_i hc
    obtain ⟨hc1, hc2⟩ := hc
    cases h
    have hb := cd (hp _ (List.mem_cons_self ..))
    have hn := Wd hb
    cases hx with
    | agg vs hv hr =>
     refine ⟨_, ?_, hr _ (by omega)⟩
     simp only [Instr.index, asIntOf, Sem.run_bind, run_underlying hu, Result.andThen_ok, Sem.run_pure, hb, and_self, if_true, run_sizeOf w hi']
     rw [show P.cellsOf e = 1 by simp only [Program.cellsOf, hi', Option.map_some, Option.getD_some, hc1], Nat.mul_one]
     exact yI (sh := none) hs (by rw [hv]; omega)
   ·cases h
  ·cases h
 ·cases h
end
end Go.Sx
