/- That the model does what the symbolic operations say. -/
import Derived.Test.YtgpbohfbhfbelaaGreatDoorSxA
import Derived.WalkSpells
import Derived.Lib.SliceRun
import Derived.LaidEqlPtr
import Derived.Lib.Builder
import Derived.Great.FillDense
import Derived.Laws.Tables
import Derived.MapKept
set_option linter.unusedSimpArgs false
set_option linter.unusedVariables false
namespace Go.Sx
open Go Go.RowKit
section
variable {P : Program} {E : Env} {nb : Nat} {bl : Nat → OB} {S : Nat → Prop} {ρ : Nat → Own} {w : World}
theorem ZW {x : Value} {v : Value} (h : zF w S ρ (.v x) v) : v = x := by cases h; rfl
theorem Z4 {l : List UInt8} {v : Value} (h : zF w S ρ (.str l) v) : v = .string ⟨l.toArray⟩ := by cases h; rfl
theorem Vm (l : List UInt8) : (⟨l.toArray⟩ : ByteArray).toList = l := by rw [Lib.toList_data]
theorem UU {x : AV} {v : Value} (hx : zF w S ρ x v) (h : oE x = true) : v.oneCell' = true := by
 cases hx with
 | v x => exact h
 | dnp hd hx => obtain ⟨a, rfl⟩ := hx; rfl
 | dyl hd hx => obtain ⟨a, rfl⟩ := hx; rfl
 | dmp hd hx => obtain ⟨a, rfl⟩ := hx; rfl
 | dns hd hx => obtain ⟨a, b, rfl⟩ := hx; rfl
 | dap hd hx => obtain ⟨a, rfl⟩ := hx; rfl
 | agg => cases h
 | tup => cases h
 | gd => cases h
 | junk => cases h
 | er => cases h
 | ps => cases h
 | dps => cases h
 | _ => rfl
theorem cells_one {v : Value} (h : v.oneCell' = true) : v.cells = #[v] := by cases v <;> first | rfl | cases h
theorem xQ {x : AV} {v : Value} {n : Nat} {cs : Nat → AV} (hx : zF w S ρ x v) (h : vW x = some (n, cs)) :
  v.cells.size = n ∧ ∀ i, i < n → zF w S ρ (cs i) (v.cells.getD i undef) ∧ (v.cells.getD i undef).oneCell' = true := by
 have one : ∀ {x : AV}, zF w S ρ x v → (if oE x then some (1, fun _ => x) else none) = some (n, cs) →
   v.cells.size = n ∧ ∀ i, i < n → zF w S ρ (cs i) (v.cells.getD i undef) ∧ (v.cells.getD i undef).oneCell' = true := by
  intro x hx h
  split at h
  ·rename_i ho
   cases h
   have h1 := UU hx ho
   rw [cells_one h1]
   simp_all
  ·cases h
 cases x with
 | agg m cs' =>
  simp only [vW] at h
  split at h
  ·rename_i ho
   cases h
   cases hx with
   | agg vs hn hr =>
    exact ⟨hn, fun i hi => ⟨hr i hi, UU (hr i hi) (ZK ho i hi)⟩⟩
  ·cases h
 | _ => exact one hx h
theorem rt {op : BinOp} {k : IntKind} {a b : Int} {ps : List zn} {r : AV} (t : TypeId) (h : Qi op k a b = some (ps, r)) (hp : ∀ p ∈ ps, p.holds) :
  ∃ v, (binOp op t (.int k a) (.int k b)).run P w = .ok v w ∧ zF w S ρ r v := by
 cases op <;> simp only [Qi] at h <;> first
  | (cases h; done)
  | (simp only [Option.some.injEq, Prod.mk.injEq] at h
     obtain ⟨rfl, rfl⟩ := h)
 case quo =>
  have h0 : b ≠ 0 := cd (hp _ (List.mem_cons_self ..))
  refine ⟨_, ?_, .v _⟩
  simp only [binOp, ne_eq, not_true_eq_false, if_false, Op.intDiv, h0, Sem.run_pure]
  rw [vx (cd (hp _ (by simp)))]
 case rem =>
  have h0 : b ≠ 0 := cd (hp _ (List.mem_cons_self ..))
  refine ⟨_, ?_, .v _⟩
  simp only [binOp, ne_eq, not_true_eq_false, if_false, Op.intDiv, h0, Sem.run_pure]
 all_goals
  refine ⟨_, ?_, .v _⟩
  simp [binOp, Op.intArith, Op.intCmp, Lh, lE]
  try exact vx (cd (hp _ (by simp)))
theorem RN {op : BinOp} {a b : List UInt8} {ps : List zn} {r : AV} (t : TypeId) (h : oW op a b = some (ps, r)) (hp : ∀ p ∈ ps, p.holds) :
  ∃ v, (binOp op t (.string ⟨a.toArray⟩) (.string ⟨b.toArray⟩)).run P w = .ok v w ∧ zF w S ρ r v := by
 cases op <;> simp only [oW] at h <;> first
  | (cases h; done)
  | skip
 all_goals
  simp only [Option.some.injEq, Prod.mk.injEq] at h
  obtain ⟨rfl, rfl⟩ := h
 case add =>
  refine ⟨.string ⟨(a ++ b).toArray⟩, ?_, .str _⟩
  have h0 := cd (hp _ (List.mem_cons_self ..))
  have e : ((⟨a.toArray⟩ : ByteArray) ++ ⟨b.toArray⟩) = ⟨(a ++ b).toArray⟩ := by
   rfl
  have hs : ¬ (((⟨a.toArray⟩ : ByteArray).size + (⟨b.toArray⟩ : ByteArray).size : Nat) : Int) > IntKind.i64.max := by
   simp only [Lib.size_eq, IntKind.max, IntKind.bits, IntKind.signed]
   simp; omega
  simp only [binOp, Op.stringOp]
  simp_all
 all_goals
  refine ⟨_, ?_, .v _⟩
  simp only [binOp, Op.stringOp, Vm, Sem.run_pure]
theorem xG {x : AV} {v : Value} (h : zF w S ρ x v) (hg : ∀ p ∈ x.gprop, p.holds) : zF w S ρ x.strip v := h.strip hg
theorem Zp {t : TypeId} {sh : Option Nat} {cs : Array Value} {off : Nat} (hs : shapeOf P t = some sh)
  (hb : match sh with | none => off < cs.size | some m => off + m ≤ cs.size) :
  (part t cs off).run P w = .ok (match sh with | none => cs.getD off undef | some m => .agg (cs.extract off (off + m))) w := by
 unfold part
 cases sh with
 | none =>
  simp only [Sem.run_bind, Si hs, Result.andThen_ok, Bool.false_eq_true, if_false]
  simp_all
 | some m =>
  simp only [Sem.run_bind, (W1 hs w).1, Result.andThen_ok, if_true, (W1 hs w).2]
  rfl
theorem uX {k : TypeId} (h : Xg P k = true) : ∃ f g fs, P.underlying k = some (.struct fs) ∧ fs.toList = [f, g] ∧ f.name ≠ "_" ∧ g.name ≠ "_" ∧
  P.underlying f.type = some (.int .i64) ∧ P.underlying g.type = some (.int .i64) ∧ f.offset = 0 ∧ g.offset = 1 := by
 unfold Xg at h
 split at h
 ·rename_i fs hu
  split at h
  ·rename_i f g hf
   split at h
   ·cases h
   ·rename_i h1
    split at h
    ·cases h
    ·rename_i h2
     split at h
     ·rename_i h3 h4
      rw [Bool.and_eq_true] at h
      exact ⟨f, g, fs, hu, hf, h1, h2, h3, h4, Nat.eq_of_beq_eq_true h.1, Nat.eq_of_beq_eq_true h.2⟩
     ·cases h
  ·cases h
 ·cases h
theorem Xy {t : TypeId} {k : IntKind} (h : P.underlying t = some (.int k)) : shapeOf P t = some none := by
 unfold shapeOf; rw [h]
theorem Ub {k : TypeId} {vs us : Array Value} {a b c e : Int} (d : Nat) (hp : Xg P k = true) (hs : P.stoodInHeld k = false) (hv : vs.size = 2) (hu : us.size = 2)
  (v0 : vs.getD 0 undef = .int .i64 a) (v1 : vs.getD 1 undef = .int .i64 b) (u0 : us.getD 0 undef = .int .i64 c) (u1 : us.getD 1 undef = .int .i64 e) :
  (Op.equalIn (d + 2) k (.agg vs) (.agg us)).run P w = .ok (a == c && (b == e && true)) w := by
 obtain ⟨f, g, fs, hk, hf, n1, n2, t1, t2, o1, o2⟩ := uX hp
 have hfs : P.fieldsOf k = fs := by unfold Program.fieldsOf; rw [hk]
 have hu' : P.underlying k = some (.struct (P.fieldsOf k)) := by rw [hfs]; exact hk
 rw [run_equalIn_agg w (d + 1) k _ _ hu' hs, hfs, hf]
 have p1 : (part f.type vs f.offset).run P w = .ok (.int .i64 a) w := by rw [← v0, o1]; exact Zp (sh := none) (Xy t1) (by show 0 < vs.size; omega)
 have p2 : (part f.type us f.offset).run P w = .ok (.int .i64 c) w := by rw [← u0, o1]; exact Zp (sh := none) (Xy t1) (by show 0 < us.size; omega)
 have p3 : (part g.type vs g.offset).run P w = .ok (.int .i64 b) w := by rw [← v1, o2]; exact Zp (sh := none) (Xy t2) (by show 1 < vs.size; omega)
 have p4 : (part g.type us g.offset).run P w = .ok (.int .i64 e) w := by rw [← u1, o2]; exact Zp (sh := none) (Xy t2) (by show 1 < us.size; omega)
 simp only [Op.eqFields, n1, n2, ne_eq, not_false_eq_true, if_true, Sem.run_bind, p1, p2, p3, p4, Result.andThen_ok, run_equalIn_int w d f.type .i64 .i64 a c t1, run_equalIn_int w d g.type .i64 .i64 b e t2]
 cases a == c <;> cases hb : (b == e) <;> simp [p3, p4, run_equalIn_int w d g.type .i64 .i64 b e t2, hb]
theorem Tz {xs ys : Nat → AV} {vs us : Array Value} {fs : List Field} {r : Bool} {c : Nat} (d : Nat) (h : Ka P xs ys fs = some r)
  (hx : ∀ i, i < c → zF w S ρ (xs i) (vs.getD i undef)) (hy : ∀ i, i < c → zF w S ρ (ys i) (us.getD i undef)) (hv : vs.size = c) (hu : us.size = c)
  (hf : ∀ f ∈ fs, f.offset < c ∧ (Xg P f.type = true → f.offset + 2 ≤ c)) : (Op.eqFields (d + 2) vs us fs).run P w = .ok r w := by
 induction fs generalizing r with
 | nil => cases h; rfl
 | cons f fs ih =>
  obtain ⟨ho, ho2⟩ := hf f (List.mem_cons_self ..)
  simp only [Ka] at h
  split at h
  ·cases h
  ·rename_i hn
   have hsh : ∀ {d}, P.underlying f.type = some d → (∀ x, d ≠ .struct x) → (∀ x y, d ≠ .array x y) → shapeOf P f.type = some none := by
    intro d hd h1 h2
    unfold shapeOf
    rw [hd]
    cases d <;> first | rfl | (exact absurd rfl (h1 _)) | (exact absurd rfl (h2 _ _))
   have hne : f.name ≠ "_" := hn
   simp only [Op.eqFields, hne, ne_eq, not_false_eq_true, if_true]
   split at h
   ·rename_i k0 k a k' b r' hd hxx hyy hr
    split at h
    ·rename_i hk
     cases h
     have s := hsh hd (by simp) (by simp)
     have e1 := ZW (hxx ▸ hx _ ho)
     have e2 := ZW (hyy ▸ hy _ ho)
     simp only [Sem.run_bind, Zp (sh := none) s (by rw [hv]; exact ho), Zp (sh := none) s (by rw [hu]; exact ho), Result.andThen_ok, e1, e2]
     rw [hk, run_equalIn_int w (d + 1) f.type k' k0 a b hd]
     simp only [Result.andThen_ok]
     have := ih hr (fun f' hf' => hf f' (List.mem_cons_of_mem _ hf'))
     cases hab : (a == b) <;> simp [this]
    ·cases h
   ·rename_i a b r' hd hxx hyy hr
    cases h
    have s := hsh hd (by simp) (by simp)
    have e1 := ZW (hxx ▸ hx _ ho)
    have e2 := ZW (hyy ▸ hy _ ho)
    simp only [Sem.run_bind, Zp (sh := none) s (by rw [hv]; exact ho), Zp (sh := none) s (by rw [hu]; exact ho), Result.andThen_ok, e1, e2]
    rw [run_equalIn_bool' w (d + 1) f.type a b hd]
    simp only [Result.andThen_ok]
    have := ih hr (fun f' hf' => hf f' (List.mem_cons_of_mem _ hf'))
    cases hab : (a == b) <;> simp [this]
   ·rename_i a b r' hd hxx hyy hr
    cases h
    have s := hsh hd (by simp) (by simp)
    have e1 := Z4 (hxx ▸ hx _ ho)
    have e2 := Z4 (hyy ▸ hy _ ho)
    simp only [Sem.run_bind, Zp (sh := none) s (by rw [hv]; exact ho), Zp (sh := none) s (by rw [hu]; exact ho), Result.andThen_ok, e1, e2]
    rw [run_equalIn_string w (d + 1) f.type _ _ hd]
    simp only [Result.andThen_ok, Vm]
    have := ih hr (fun f' hf' => hf f' (List.mem_cons_of_mem _ hf'))
    cases hab : (a == b) <;> simp [this]
   ·rename_i fs' r' hd hr
    unfold MW at h
    cases hpb : Xg P f.type && !P.stoodInHeld f.type with
    | false => rw [hpb] at h; cases h
    | true =>
     rw [hpb, cond_true] at h
     rw [Bool.and_eq_true, Bool.not_eq_true'] at hpb
     split at h
     ·rename_i a b c' e s h1 h2 h3 h4
      cases h
      have ho3 := ho2 hpb.1
      have e1 := ZW (h1 ▸ hx _ ho)
      have e2 := ZW (h2 ▸ hx (f.offset + 1) (by omega))
      have e3 := ZW (h3 ▸ hy _ ho)
      have e4 := ZW (h4 ▸ hy (f.offset + 1) (by omega))
      have ex : ∀ (z : Array Value), z.size = c → (z.extract f.offset (f.offset + 2)).size = 2 ∧ (z.extract f.offset (f.offset + 2)).getD 0 undef = z.getD f.offset undef ∧ (z.extract f.offset (f.offset + 2)).getD 1 undef = z.getD (f.offset + 1) undef := fun z hz => by
       refine ⟨by simp; omega, ?_, ?_⟩
       ·simp only [Array.getD_eq_getD_getElem?, Array.getElem?_extract]
        rw [if_pos (by omega)]; rfl
       ·simp only [Array.getD_eq_getD_getElem?, Array.getElem?_extract]
        rw [if_pos (by omega)]
      obtain ⟨v1, v2, v3⟩ := ex vs hv
      obtain ⟨u1, u2, u3⟩ := ex us hu
      simp only [Sem.run_bind, Zp (sh := some 2) s (by rw [hv]; exact ho3), Zp (sh := some 2) s (by rw [hu]; exact ho3), Result.andThen_ok]
      rw [Ub d hpb.1 hpb.2 v1 u1 (v2.trans e1) (v3.trans e2) (u2.trans e3) (u3.trans e4)]
      simp only [Result.andThen_ok]
      have := ih hr (fun f' hf' => hf f' (List.mem_cons_of_mem _ hf'))
      cases hab : (a == c' && (b == e && true)) <;> simp [this]
     ·cases h
   ·cases h
theorem qH {op : BinOp} {t : TypeId} {x y r : AV} {ps : List zn} {a b : Value} (ox oy : Operand) (h : LC P op t x y = some (ps, r)) (hp : ∀ p ∈ ps, p.holds)
  (hx : zF w S ρ x a) (hy : zF w S ρ y b) :
  ∃ v, (do eqGuard op t ox oy a b; binOp op t a b : Sem Value).run P w = .ok v w ∧ zF w S ρ r v := by
 have plain : ∀ {a b : Value}, (∀ x y, ¬ (a = .agg x ∧ b = .agg y)) → (a ≠ .nilIface) → (eqGuard op t ox oy a b).run P w = .ok () w := by
  intro a b h1 h2
  unfold eqGuard
  cases op <;> simp
  all_goals
   cases a <;> cases b <;> first | rfl | (exact absurd rfl h2) | (exact absurd ⟨rfl, rfl⟩ (h1 _ _))
 unfold LC at h
 split at h
 ·rename_i k a' k' b'
  split at h
  ·rename_i hk
   subst hk
   obtain rfl := ZW hx
   obtain rfl := ZW hy
   simp only [Sem.run_bind, plain (a := .int k a') (b := .int k b') (by simp) (by simp), Result.andThen_ok]
   exact rt t h hp
  ·cases h
 ·rename_i a' b'
  obtain rfl := Z4 hx
  obtain rfl := Z4 hy
  simp only [Sem.run_bind, plain (a := .string _) (b := .string _) (by simp) (by simp), Result.andThen_ok]
  exact RN t h hp
 ·rename_i a' b'
  obtain rfl := ZW hx
  obtain rfl := ZW hy
  simp only [Sem.run_bind, plain (a := .bool _) (b := .bool _) (by simp) (by simp), Result.andThen_ok]
  split at h
  ·rename_i hu
   split at h
   ·cases h
    refine ⟨_, ?_, .v _⟩
    simp [binOp, Op.equal, Op.maxDepth, run_equalIn_bool' w 9999 t a' b' hu]
   ·cases h
    refine ⟨_, ?_, .v _⟩
    simp [binOp, Op.equal, Op.maxDepth, run_equalIn_bool' w 9999 t a' b' hu]
   ·cases h
  ·cases h
 ·rename_i n xs m ys
  cases hx with
  | agg vs hn hvr =>
   cases hy with
   | agg us hm hur =>
    split at h
    ·rename_i fs hu
     split at h
     ·rename_i hc
      obtain ⟨c1, c2, c3⟩ := hc
      have hfs : P.fieldsOf t = fs := by unfold Program.fieldsOf; rw [hu]
      have hu' : P.underlying t = some (.struct (P.fieldsOf t)) := by rw [hfs]; exact hu
      have hoff : ∀ f ∈ fs.toList, f.offset < P.cellsOf t ∧ (Xg P f.type = true → f.offset + 2 ≤ P.cellsOf t) := fun f hf => by
       have := Array.all_eq_true_iff_forall_mem.1 c3 f (by simpa using hf)
       rw [Bool.and_eq_true, decide_eq_true_iff, Bool.or_eq_true, Bool.not_eq_true'] at this
       exact ⟨this.1, fun h => this.2.elim (fun h' => by rw [h] at h'; cases h') Nat.le_of_ble_eq_true⟩
      split at h
      ·rename_i r' hr
       cases h
       have g1 := cd (hp _ (List.mem_cons_self ..))
       have g2 := cd (hp _ (List.mem_cons_of_mem _ (List.mem_cons_self ..)))
       simp only [Sem.run_bind, run_eqGuard_agg w _ t ox oy vs us g2, Result.andThen_ok]
       refine ⟨_, ?_, .v _⟩
       rw [run_eql_struct, run_equalIn_agg w 9999 t vs us hu' g1, hfs,
        Tz (c := P.cellsOf t) 9997 hr (by rw [← c1]; exact hvr) (by rw [← c2]; exact hur) (hn.trans c1) (hm.trans c2) hoff]
       rfl
      ·rename_i r' hr
       cases h
       have g1 := cd (hp _ (List.mem_cons_self ..))
       have g2 := cd (hp _ (List.mem_cons_of_mem _ (List.mem_cons_self ..)))
       simp only [Sem.run_bind, run_eqGuard_agg w _ t ox oy vs us g2, Result.andThen_ok]
       refine ⟨_, ?_, .v _⟩
       rw [run_neq_struct, run_equalIn_agg w 9999 t vs us hu' g1, hfs,
        Tz (c := P.cellsOf t) 9997 hr (by rw [← c1]; exact hvr) (by rw [← c2]; exact hur) (hn.trans c1) (hm.trans c2) hoff]
       rfl
      ·cases h
     ·cases h
    ·cases h
 ·cases h
theorem wW (d : Nat) {t e : TypeId} (h : P.underlying t = some (.pointer e)) : (Op.equalIn (d + 1) t (.pointer none) (.pointer none)).run P w = .ok true w := by
 simp [Op.equalIn, run_underlying h]
theorem wq (d : Nat) {t e : TypeId} (p : Addr) (h : P.underlying t = some (.pointer e)) : (Op.equalIn (d + 1) t (.pointer (some p)) (.pointer none)).run P w = .ok false w := by
 simp [Op.equalIn, run_underlying h]
theorem UZ {t : TypeId} {a b : Option Addr} {r : Bool} (h : ∀ d : Nat, (Op.equalIn (d + 1) t (.pointer a) (.pointer b)).run P w = .ok r w) : (binOp .eql t (.pointer a) (.pointer b)).run P w = .ok (.bool r) w := by
 simp only [binOp]
 simp [Op.equal, Op.maxDepth, h 9999]
theorem uB {t : TypeId} {a b : Option Addr} {r : Bool} (h : ∀ d : Nat, (Op.equalIn (d + 1) t (.pointer a) (.pointer b)).run P w = .ok r w) : (binOp .neq t (.pointer a) (.pointer b)).run P w = .ok (.bool (!r)) w := by
 simp only [binOp]
 simp [Op.equal, Op.maxDepth, h 9999]
theorem PI {op : BinOp} {t : TypeId} {x y r : AV} {ps : List zn} {a b : Value} (ox oy : Operand) (hM : Mem E nb bl S ρ w) (h : RY P bl op t x y = some (ps, r)) (hp : ∀ p ∈ ps, p.holds)
  (hx : zF w S ρ x a) (hy : zF w S ρ y b) :
  ∃ v, (do eqGuard op t ox oy a b; binOp op t a b : Sem Value).run P w = .ok v w ∧ zF w S ρ r v := by
 have plain : ∀ {a b : Value}, (∀ x y, ¬ (a = .agg x ∧ b = .agg y)) → (a ≠ .nilIface) → (eqGuard op t ox oy a b).run P w = .ok () w := by
  intro a b h1 h2
  unfold eqGuard
  simp_all
 unfold RY at h
 split at h
 ·rename_i k' b'
  obtain rfl := ZW hy
  split at h
  ·rename_i k a'
   obtain rfl := ZW hx
   simp only [Sem.run_bind, plain (a := .int k a') (b := .int k' b') (by simp) (by simp), Result.andThen_ok]
   split at h
   ·cases h
    have h0 : 0 ≤ b' := cd (hp _ (List.mem_cons_self ..))
    refine ⟨_, ?_, .v _⟩
    simp only [binOp, Op.shift]
    rw [if_neg (by omega)]
    rfl
   ·cases h
    have h0 : 0 ≤ b' := cd (hp _ (List.mem_cons_self ..))
    refine ⟨_, ?_, .v _⟩
    simp only [binOp, Op.shift]
    rw [if_neg (by omega)]
    rfl
   ·split at h
    ·rename_i hk
     subst hk
     obtain ⟨n, h1, h2⟩ := Option.map_eq_some_iff.1 h
     cases h2
     refine ⟨_, ?_, .v _⟩
     unfold J5 at h1
     split at h1 <;> first | (cases h1; done) | skip
     all_goals
      cases h1
      simp only [binOp, Op.intBits, ne_eq, not_true_eq_false, if_false]
      rfl
    ·cases h
  ·cases h
 ·obtain rfl := ZW hy
  have sl : ∀ z, vF bl x = some z → ∃ o n c, a = .slice o n c ∧ (o.isNone = true → z = true) := fun z hz => by
   unfold vF at hz
   split at hz
   ·rename_i full sz len els
    split at hz
    ·rename_i h0
     cases hz
     cases hx with
     | xl o cap cvs hle hm hf hc hr =>
      refine ⟨o, len, cap, rfl, fun ho => ?_⟩
      cases len with
      | zero => rfl
      | succ n =>
       obtain ⟨A, e, _⟩ := hc 0 0 (Nat.succ_pos _) h0
       simp_all
    ·cases hz
   ·rename_i k off len
    split at hz
    ·rename_i e1 e2 e3 e4 hB
     cases hz
     cases hx with
     | ns g base cap sz L hk hl hc => simp
     | ns0 g base cap sz L A hk hl hc h0 => simp
     | nsn sz o hk => simp
     | dns hd hsh =>
      have hb := (hM.at k).resolve_left (by rw [hd]; simp)
      rw [hB, hd] at hb
      exact hb.elim
    ·cases hz
   ·cases hz
  split at h
  ·rename_i el hu
   obtain ⟨z, h1, h2⟩ := Option.map_eq_some_iff.1 h
   cases h2
   obtain ⟨o, n, c, rfl, hz⟩ := sl z h1
   simp only [Sem.run_bind, plain (a := .slice o n c) (b := .slice none 0 0) (by simp) (by simp), Result.andThen_ok]
   exact ⟨_, Lib.run_eql_slice_nil w t el o n c 0 0 hu, .nb _ fun e => hz (by simp at e; simp [e])⟩
  ·rename_i el hu
   obtain ⟨z, h1, h2⟩ := Option.map_eq_some_iff.1 h
   cases h2
   obtain ⟨o, n, c, rfl, hz⟩ := sl z h1
   simp only [Sem.run_bind, plain (a := .slice o n c) (b := .slice none 0 0) (by simp) (by simp), Result.andThen_ok]
   exact ⟨_, run_neq_slice_nil_any w t el o n c 0 0 hu, .nb _ fun e => hz (by simp at e; simp [e])⟩
  ·cases h
 ·obtain rfl := ZW hy
  have pt : MD x = true → ∃ p, a = .pointer (some p) := fun hi => by
   cases hx with
   | np g hk => simp
   | ap g base cap sz L hk hi hc => simp
   | xq A cvs hc hr => simp
   | dnp hd hsh => exact hsh
   | dap hd hsh => exact hsh
   | _ => cases hi
  split at h
  ·rename_i el hu
   cases h
   obtain rfl := ZW hx
   simp only [Sem.run_bind, plain (a := .pointer none) (b := .pointer none) (by simp) (by simp), Result.andThen_ok]
   exact ⟨_, UZ fun d => wW d hu, .v _⟩
  ·rename_i el hu
   cases h
   obtain rfl := ZW hx
   simp only [Sem.run_bind, plain (a := .pointer none) (b := .pointer none) (by simp) (by simp), Result.andThen_ok]
   exact ⟨_, uB fun d => wW d hu, .v _⟩
  ·rename_i el hu _
   split at h
   ·rename_i hi
    cases h
    obtain ⟨p, rfl⟩ := pt hi
    simp only [Sem.run_bind, plain (a := .pointer (some p)) (b := .pointer none) (by simp) (by simp), Result.andThen_ok]
    exact ⟨_, UZ fun d => wq d p hu, .v _⟩
   ·cases h
  ·rename_i el hu _
   split at h
   ·rename_i hi
    cases h
    obtain ⟨p, rfl⟩ := pt hi
    simp only [Sem.run_bind, plain (a := .pointer (some p)) (b := .pointer none) (by simp) (by simp), Result.andThen_ok]
    exact ⟨_, uB fun d => wq d p hu, .v _⟩
   ·cases h
  ·cases h
 ·rename_i k' o'
  split at h
  ·rename_i el k o tb nb' cells hu hB
   split at h
   ·rename_i hc
    obtain ⟨rfl, rfl, hi⟩ := hc
    obtain ⟨i, hi⟩ := Option.isSome_iff_exists.1 hi
    have same : ∃ g, a = .pointer (some g) ∧ b = .pointer (some g) := by
     have live : ρ k ≠ .dead := fun hd => by
      have hb := (hM.at k).resolve_left (by rw [hd]; simp)
      rw [hB, hd] at hb
      exact hb.elim
     cases hx with
     | np g hk =>
      cases hy with
      | np g' hk' => simp_all
      | dnp hd hsh => simp_all
     | dnp hd hsh => simp_all
    obtain ⟨g, rfl, rfl⟩ := same
    simp only [Sem.run_bind, plain (a := .pointer (some g)) (b := .pointer (some g)) (by simp) (by simp), Result.andThen_ok]
    split at h
    ·cases h; exact ⟨_, run_eql_ptr_same w g hu hi, .v _⟩
    ·cases h; exact ⟨_, Lib.run_neq_ptr_same w g hu hi, .v _⟩
    ·cases h
   ·cases h
  ·cases h
 ·cases h
theorem pN {op : BinOp} {t : TypeId} {x y r : AV} {ps : List zn} {a b : Value} (ox oy : Operand) (hM : Mem E nb bl S ρ w) (h : O5 P bl op t x y = some (ps, r)) (hp : ∀ p ∈ ps, p.holds)
  (hx : zF w S ρ x a) (hy : zF w S ρ y b) :
  ∃ v, (do eqGuard op t ox oy a b; binOp op t a b : Sem Value).run P w = .ok v w ∧ zF w S ρ r v := by
 unfold O5 at h
 split at h
 ·cases h
  exact PI ox oy hM ‹_› hp hx hy
 ·exact qH ox oy h hp hx hy
theorem TR {place : Nat → Option (Nat × Nat)} {n : Nat} : ∀ (parts : List (Nat × AV)) (vals : List (Nat × Value)) (cs cs' : Nat → AV) (c : Array Value), c.size = n → (∀ j, j < n → zF w S ρ (cs j) (c.getD j undef)) →
  parts.length = vals.length → (∀ (i : Nat) (p : Nat × AV) (v : Nat × Value), parts[i]? = some p → vals[i]? = some v → p.1 = v.1 ∧ zF w S ρ p.2 v.2) → S4 place n cs parts = some cs' →
  ∃ c', Instr.fill place c vals = some c' ∧ c'.size = n ∧ ∀ j, j < n → zF w S ρ (cs' j) (c'.getD j undef)
 | [], [], cs, cs', c, hn, hc, _, _, h => by cases h; exact ⟨c, rfl, hn, hc⟩
 | [], _ :: _, _, _, _, _, _, hl, _, _ => by cases hl
 | _ :: _, [], _, _, _, _, _, hl, _, _ => by cases hl
 | (i, x) :: parts, (i', v) :: vals, cs, cs', c, hn, hc, hl, hr, h => by
  obtain ⟨e, hx⟩ := hr 0 _ _ rfl rfl
  simp only at e hx
  subst e
  simp only [S4] at h
  split at h
  ·rename_i off size m ys hpl hce
   split at h
   ·rename_i hcc
    obtain ⟨c1, c2⟩ := hcc
    subst c1
    obtain ⟨k1, k2⟩ := xQ hx hce
    obtain ⟨g1, g2⟩ := Great.foldl_set off v.cells.toList 0 c
    have hz : v.cells.zipIdx.foldl (fun cs (c, j) => cs.setIfInBounds (off + j) c) c = (v.cells.toList.zipIdx 0).foldl (fun cs (x : Value × Nat) => cs.setIfInBounds (off + x.2) x.1) c := by
     rw [← Array.foldl_toList]
     simp
    obtain ⟨c', q1, q2, q3⟩ := TR parts vals (fun j => bif Nat.ble off j && Nat.blt j (off + m) then ys (j - off) else cs j) cs' ((v.cells.toList.zipIdx 0).foldl (fun cs (x : Value × Nat) => cs.setIfInBounds (off + x.2) x.1) c)
     (by rw [g1, hn]) (fun j hj => by
      rw [Array.getD_eq_getD_getElem?, g2]
      simp only [Nat.add_zero, Array.length_toList]
      by_cases hin : off ≤ j ∧ j < off + m
      ·have e1 : (Nat.ble off j && Nat.blt j (off + m)) = true := by
        rw [Bool.and_eq_true]; exact ⟨Nat.ble_eq_true_of_le hin.1, Nat.ble_eq_true_of_le hin.2⟩
       rw [e1, if_pos ⟨hin.1, by rw [k1]; exact hin.2, by omega⟩]
       have := (k2 (j - off) (by omega)).1
       rw [Array.getD_eq_getD_getElem?] at this
       grind
      ·have e1 : (Nat.ble off j && Nat.blt j (off + m)) = false := by
        cases hb : (Nat.ble off j && Nat.blt j (off + m)) with
        | false => rfl
        | true =>
         rw [Bool.and_eq_true] at hb
         exact absurd ⟨Nat.le_of_ble_eq_true hb.1, Nat.le_of_ble_eq_true hb.2⟩ hin
       rw [e1, if_neg (by rw [k1]; omega)]
       have := hc j hj
       rw [Array.getD_eq_getD_getElem?] at this
       exact this)
     (by simpa using hl) (fun j p v hp hv => hr (j + 1) p v (by simpa using hp) (by simpa using hv)) h
    refine ⟨c', ?_, q2, q3⟩
    unfold Instr.fill
    grind
   ·cases h
  ·cases h
theorem qS {t : TypeId} {parts : List (Nat × AV)} {vals : Array (Nat × Value)} {r : AV} (h : RI P t parts = some r) (hl : parts.length = vals.toList.length)
  (hr : ∀ (i : Nat) (p : Nat × AV) (v : Nat × Value), parts[i]? = some p → vals.toList[i]? = some v → p.1 = v.1 ∧ zF w S ρ p.2 v.2) : ∃ v, (Instr.build t vals).run P w = .ok v w ∧ zF w S ρ r v := by
 unfold RI at h
 split at h
 ·rename_i it place hi hpl
  split at h
  ·rename_i z hz
   obtain ⟨cs, h1, h2⟩ := Option.map_eq_some_iff.1 h
   cases h2
   obtain ⟨c', q1, q2, q3⟩ := TR parts vals.toList _ cs z.cells rfl (fun j hj => by first | (rw [Oe hj]; exact zF.const _) | exact zF.const _) hl hr h1
   refine ⟨_, run_build w t vals c' ?_, .agg c' q2 fun i hi => by rw [Ue hi]; exact q3 i hi⟩
   unfold placesOf at hpl
   unfold Program.built
   rw [hi]
   split at hpl
   ·rename_i e hu
    rw [hu]
    obtain ⟨ie, e1, e2⟩ := Option.map_eq_some_iff.1 hpl
    simp_all
   ·rename_i fs hu
    rw [hu]
    obtain ⟨pl, e1, e2⟩ := Option.map_eq_some_iff.1 hpl
    simp_all
   ·cases hpl
  ·cases h
 ·cases h
end
end Go.Sx

namespace Go.Sx
open Go Go.RowKit
section
variable {P : Program} {E : Env} {nb : Nat} {bl : Nat → OB} {S : Nat → Prop} {ρ : Nat → Own} {w : World}
theorem pJ {op : UnOp} {x r : AV} {ps : List zn} {a : Value} (h : i7 op x = some (ps, r)) (hp : ∀ p ∈ ps, p.holds) (hx : zF w S ρ x a) :
  ∃ v, (Op.unary op a).run P w = .ok v w ∧ zF w S ρ r v := by
 unfold i7 at h
 split at h
 ·cases h
  obtain rfl := ZW hx
  exact ⟨_, rfl, .v _⟩
 ·rename_i p z
  cases h
  cases hx with
  | nb t ht => exact ⟨_, rfl, .nb (!t) fun e => ht (by cases t <;> cases p <;> simp_all)⟩
 ·rename_i k n
  cases h
  obtain rfl := ZW hx
  refine ⟨.int k (-n), ?_, .v _⟩
  have := vx (cd (hp _ (List.mem_cons_self ..)))
  simp only [Op.unary, Op.intArith, Sem.run_pure]
  simp_all
 ·cases h
theorem RX {s d : TypeId} {x r : AV} {ps : List zn} {a : Value} (h : PL P s d x = some (ps, r)) (hp : ∀ p ∈ ps, p.holds) (hx : zF w S ρ x a) :
  ∃ v, (convert s d a).run P w = .ok v w ∧ zF w S ρ r v := by
 unfold PL at h
 split at h
 ·rename_i ds k k' n hs hd
  cases h
  obtain rfl := ZW hx
  refine ⟨_, ?_, .v _⟩
  have := vx (cd (hp _ (List.mem_cons_self ..)))
  simp [convert, run_underlying hs, run_underlying hd, Conv.intToInt, this]
 ·rename_i ds l hs hd
  cases h
  obtain rfl := Z4 hx
  refine ⟨_, ?_, .str l⟩
  simp only [convert, Sem.run_bind, run_underlying hs, run_underlying hd, Result.andThen_ok]
  rfl
 ·cases h
theorem U0 {t : TypeId} {f d : Nat} (h : TW P t f = some d) (a : Addr) :
  (Instr.fieldAt t (.pointer (some a)) f).run P w = .ok (.pointer (some (a.add d))) w := by
 unfold TW at h
 split at h
 ·rename_i fs hu
  split at h
  ·rename_i fd hf
   split at h
   ·rename_i i hi
    split at h
    ·cases h
    ·rename_i h0
     cases h
     have hc : ¬ P.cellsOf fd.type = 0 := by simp [Program.cellsOf, hi, h0]
     simp only [Instr.fieldAt, Sem.run_bind, run_underlying hu, Result.andThen_ok, hf, Instr.sureAddr, Sem.run_pure, fieldPlace, run_sizeOf w hi, hc, if_false]
   ·cases h
  ·cases h
 ·cases h
theorem Mem.box (hM : Mem E nb bl S ρ w) {k : Nat} (h : Wl (bl k) = true) (h0 : ρ k = .dead) : False := by
 have hb := (hM.at k).resolve_left (by rw [h0]; simp)
 rw [h0] at hb
 cases hB : bl k <;> rw [hB] at hb h <;> first | exact hb.elim | cases h
theorem Mem.arr (hM : Mem E nb bl S ρ w) {k : Nat} (h : qy (bl k) = true) (h0 : ρ k = .dead) : False := by
 have hb := (hM.at k).resolve_left (by rw [h0]; simp)
 rw [h0] at hb
 cases hB : bl k <;> rw [hB] at hb h <;> first | exact hb.elim | cases h
theorem nr {x r : AV} {a : Value} {d : Nat} (hM : Mem E nb bl S ρ w) (h : x.shift bl d = some r) (hx : zF w S ρ x a) :
  ∃ p, a = .pointer (some p) ∧ zF w S ρ r (.pointer (some (p.add d))) := by
 cases hx with
 | np g hk =>
  simp only [AV.shift] at h
  split at h
  ·cases h
   exact ⟨_, rfl, by rw [add_lit]; exact .np g hk⟩
  ·cases h
 | ap g base cap sz L hk hi hc =>
  simp only [AV.shift] at h
  split at h
  ·cases h
   exact ⟨_, rfl, by rw [add_lit, Nat.add_assoc]; exact .ap g base cap sz L hk hi hc⟩
  ·cases h
 | xq A cvs hc hr =>
  cases h
  exact ⟨_, rfl, by rw [wN]; exact .xq A cvs hc hr⟩
 | dnp hd hsh =>
  simp only [AV.shift] at h
  split at h
  ·rename_i hb; exact (hM.box hb hd).elim
  ·cases h
 | dap hd hsh =>
  simp only [AV.shift] at h
  split at h
  ·rename_i hb; exact (hM.arr hb hd).elim
  ·cases h
 | _ => simp [AV.shift] at h
theorem K8 {x r : AV} {a : Value} (hM : Mem E nb bl S ρ w) (h : WM bl x = some r) (hx : zF w S ρ x a) :
  zF w S ρ r a ∧ ((∃ p, a = .pointer (some p)) ∨ ∃ f vs us, a = .func (.func f) vs us) := by
 cases hx with
 | np g hk =>
  simp only [WM] at h
  split at h
  ·cases h; exact ⟨.np g hk, .inl ⟨_, rfl⟩⟩
  ·cases h
 | ap g base cap sz L hk hi hc =>
  simp only [WM] at h
  split at h
  ·cases h; exact ⟨.ap g base cap sz L hk hi hc, .inl ⟨_, rfl⟩⟩
  ·cases h
 | xq A cvs hc hr => cases h; exact ⟨.xq A cvs hc hr, .inl ⟨_, rfl⟩⟩
 | @fn _ f nf fi nc ca vs us hn hm hr hs =>
  cases f with
  | func f =>
   cases h
   exact ⟨.fn vs us hn hm hr hs, .inr ⟨_, _, _, rfl⟩⟩
  | _ => simp [WM] at h
 | dnp hd hsh =>
  simp only [WM] at h
  split at h
  ·rename_i hb; exact (hM.box hb hd).elim
  ·cases h
 | dap hd hsh =>
  simp only [WM] at h
  split at h
  ·rename_i hb; exact (hM.arr hb hd).elim
  ·cases h
 | _ => simp [WM] at h
theorem sx {t : TypeId} {f : Nat} {x r : AV} {a : Value} (h : rP P t f x = some r) (hx : zF w S ρ x a) :
  ∃ v, (Instr.field t a f).run P w = .ok v w ∧ zF w S ρ r v := by
 unfold rP at h
 split at h
 ·rename_i fs n cs hu
  cases hx with
  | agg vs hn hr =>
   split at h
   ·rename_i fd hf
    split at h
    ·rename_i hs
     split at h
     ·rename_i hlt
      cases h
      refine ⟨_, ?_, hr _ hlt⟩
      simp only [Instr.field, Sem.run_bind, run_underlying hu, Result.andThen_ok, hf, asAgg, Sem.run_pure]
      exact Zp (sh := none) hs (by rw [hn]; exact hlt)
     ·cases h
    ·rename_i m hs
     split at h
     ·rename_i hlt
      cases h
      refine ⟨.agg (vs.extract fd.offset (fd.offset + m)), ?_, .agg _ (by simp; omega) fun i hi => ?_⟩
      ·simp only [Instr.field, Sem.run_bind, run_underlying hu, Result.andThen_ok, hf, asAgg, Sem.run_pure]
       exact Zp (sh := some m) hs (by rw [hn]; exact hlt)
      ·have := hr (fd.offset + i) (by omega)
       have e : (vs.extract fd.offset (fd.offset + m)).getD i undef = vs.getD (fd.offset + i) undef := by
        simp only [Array.getD_eq_getD_getElem?, Array.getElem?_extract]
        simp_all
       simp_all
     ·cases h
    ·cases h
   ·cases h
 ·cases h
theorem Wi {n : Int} {len : Nat} (h : 0 ≤ n ∧ n < (len : Int)) : n.toNat < len := by omega
theorem Ur {t : TypeId} {x ix r : AV} {a b : Value} {ps : List zn} (hM : Mem E nb bl S ρ w) (h : Yi P bl t x ix = some (ps, r)) (hp : ∀ p ∈ ps, p.holds)
  (hx : zF w S ρ x a) (hi : zF w S ρ ix b) : ∃ v, (Instr.indexAt t a b).run P w = .ok v w ∧ zF w S ρ r v := by
 unfold Yi at h
 split at h
 ·rename_i k n
  obtain rfl := ZW hi
  split at h
  ·rename_i e hu
   split at h
   ·rename_i i full sz len els hi'
    split at h
    ·rename_i hc
     obtain ⟨hc1, hc2⟩ := hc
     cases h
     have hb := cd (hp _ (List.mem_cons_self ..))
     have hn := Wi hb
     cases hx with
     | xl o cap cvs hle hm hf hcell hrel =>
      obtain ⟨A, rfl, _, _, _⟩ := hcell n.toNat 0 hn hc2
      refine ⟨.pointer (some (A.add (n.toNat * sz))), ?_, ?_⟩
      ·simp only [Instr.indexAt, asIntOf, Sem.run_bind, run_underlying hu, Result.andThen_ok, Sem.run_pure, hb, and_self, if_true, run_sizeOf w hi']
       simp [Program.cellsOf, hi', hc1]
      ·have := zF.xq (w := w) (S := S) (ρ := ρ) (n := sz) (cells := els n.toNat) (off := 0) (A.add (n.toNat * sz)) (cvs n.toNat)
        (fun j hj => by
         obtain ⟨A', e', h1, h2, h3⟩ := hcell n.toNat j hn hj
         cases e'
         exact ⟨by rw [yS]; exact h1, by rw [wN]; exact h2, h3⟩)
        (fun j hj => hrel n.toNat j hn hj)
       assumption
    ·cases h
   ·rename_i i kk off len hi'
    split at h
    ·rename_i t' sz L els hB
     split at h
     ·rename_i hc
      cases h
      have hb := cd (hp _ (List.mem_cons_self ..))
      have hn := Wi hb
      have hbk := hM.at kk
      cases hx with
      | ns g base cap sz' L' hk hl hcap =>
       have hbk := hbk.resolve_left (by rw [hk]; simp)
       rw [hB, hk] at hbk
       obtain ⟨e1, e2, _⟩ := hbk
       subst e1; subst e2
       refine ⟨.pointer (some ⟨g, (base + (off + n.toNat)) * sz' + 0, none⟩), ?_, .ap g base cap sz' L' hk (by omega) hcap⟩
       simp only [Instr.indexAt, asIntOf, Sem.run_bind, run_underlying hu, Result.andThen_ok, Sem.run_pure, hb, and_self, if_true, run_sizeOf w hi']
       rw [add_lit]
       simp only [Program.cellsOf, hi', Option.map_some, Option.getD_some, hc, Nat.add_zero, ← Nat.add_mul, Nat.add_assoc]
      | ns0 => omega
      | nsn => omega
      | dns hd hsh => exact (hM.arr (by rw [hB]; rfl) hd).elim
     ·cases h
    ·cases h
   ·rename_i i kk len hi'
    split at h
    ·rename_i hc
     obtain ⟨hc1, hc2⟩ := hc
     cases h
     have hb := cd (hp _ (List.mem_cons_self ..))
     cases hx with
     | ps g cap hk hcap =>
      refine ⟨.pointer (some ⟨g, n.toNat, none⟩), ?_, .np g hk⟩
      simp only [Instr.indexAt, asIntOf, Sem.run_bind, run_underlying hu, Result.andThen_ok, Sem.run_pure, hb, and_self, if_true, run_sizeOf w hi']
      rw [add_lit]
      simp only [Program.cellsOf, hi', Option.map_some, Option.getD_some, hc1, Nat.mul_one, Nat.zero_add]
     | dps hd hsh => exact (hM.box hc2 hd).elim
    ·cases h
   ·cases h
  ·rename_i N e hu
   split at h
   ·rename_i i kk a' hi'
    split at h
    ·rename_i t' sz L els hB
     split at h
     ·rename_i hc
      obtain ⟨hc1, hc2⟩ := hc
      cases h
      have hb := cd (hp _ (List.mem_cons_self ..))
      have hn := Wi hb
      have hbk := hM.at kk
      cases hx with
      | ap g base cap sz' L' hk hi2 hcap =>
       have hbk := hbk.resolve_left (by rw [hk]; simp)
       rw [hB, hk] at hbk
       obtain ⟨e1, e2, _⟩ := hbk
       subst e1; subst e2
       refine ⟨.pointer (some ⟨g, (base + (a' + n.toNat)) * sz' + 0, none⟩), ?_, .ap g base cap sz' L' hk (by omega) hcap⟩
       simp only [Instr.indexAt, asIntOf, Sem.run_bind, run_underlying hu, Result.andThen_ok, Sem.run_pure, Instr.sureAddr, hb, and_self, if_true, run_sizeOf w hi']
       rw [add_lit]
       simp only [Program.cellsOf, hi', Option.map_some, Option.getD_some, hc1, Nat.add_zero, ← Nat.add_mul, Nat.add_assoc]
      | dap hd hsh => exact (hM.arr (by rw [hB]; rfl) hd).elim
     ·cases h
    ·cases h
   ·rename_i i kk off hi'
    split at h
    ·rename_i hc
     obtain ⟨hc1, hc2⟩ := hc
     cases h
     have hb := cd (hp _ (List.mem_cons_self ..))
     cases hx with
     | np g hk =>
      refine ⟨.pointer (some ⟨g, off + n.toNat, none⟩), ?_, .np g hk⟩
      simp only [Instr.indexAt, asIntOf, Sem.run_bind, run_underlying hu, Result.andThen_ok, Sem.run_pure, Instr.sureAddr, hb, and_self, if_true, run_sizeOf w hi']
      rw [add_lit]
      simp only [Program.cellsOf, hi', Option.map_some, Option.getD_some, hc1, Nat.mul_one]
     | dnp hd hsh => exact (hM.box hc2 hd).elim
    ·cases h
   ·cases h
  ·cases h
 ·cases h
theorem Td {t : TypeId} {x ix r : AV} {a b : Value} {ps : List zn} (h : Rq P t x ix = some (ps, r)) (hp : ∀ p ∈ ps, p.holds)
  (hx : zF w S ρ x a) (hi : zF w S ρ ix b) : ∃ v, (Instr.index t a b).run P w = .ok v w ∧ zF w S ρ r v := by
 unfold Rq at h
 split at h
 ·rename_i l k n hu
  cases h
  obtain rfl := ZW hi
  obtain rfl := Z4 hx
  have hb := cd (hp _ (List.mem_cons_self ..))
  have hn := Wi hb
  refine ⟨_, ?_, .v _⟩
  have e : (⟨l.toArray⟩ : ByteArray)[n.toNat]? = some (l.getD n.toNat 0) := by
   have hs : n.toNat < (⟨l.toArray⟩ : ByteArray).size := by rw [Lib.size_eq]; simpa using hn
   rw [getElem?_pos (⟨l.toArray⟩ : ByteArray) n.toNat hs]
   congr 1
   simp [List.getD, hn]
   rfl
  simp only [Instr.index, asIntOf, Sem.run_bind, run_underlying hu, Result.andThen_ok, Sem.run_pure, hb.1, if_true, e]
 ·rename_i N e m cs k n hu
  obtain rfl := ZW hi
  split at h
  ·rename_i i hi' hs
   split at h
   ·rename_i hc
    obtain ⟨hc1, hc2⟩ := hc
    cases h
    have hb := cd (hp _ (List.mem_cons_self ..))
    have hn := Wi hb
    cases hx with
    | agg vs hv hr =>
     refine ⟨_, ?_, hr _ (by omega)⟩
     simp only [Instr.index, asIntOf, Sem.run_bind, run_underlying hu, Result.andThen_ok, Sem.run_pure, hb, and_self, if_true, run_sizeOf w hi']
     rw [show P.cellsOf e = 1 by simp only [Program.cellsOf, hi', Option.map_some, Option.getD_some, hc1], Nat.mul_one]
     exact Zp (sh := none) hs (by rw [hv]; omega)
   ·cases h
  ·cases h
 ·cases h
theorem W2 {a b : Int} {v : Value} (h : Yp a b v = true) : v = Ys a b := by
 unfold Yp at h
 split at h
 ·rename_i x y
  simp only [Bool.and_eq_true, beq_iff_eq] at h
  rw [h.1, h.2]; rfl
 ·cases h
theorem Xx (a b x y : Int) : Yp a b (Ys x y) = (a == x && b == y) := rfl
theorem Xr.pairs {es : Array MapEntry} {ks : List (Int × Int)} (h : Xr es ks) : ∀ e ∈ es.toList, ∃ a b, e.key = Ys a b := fun e he => by
 have : e.key ∈ es.toList.map (·.key) := List.mem_map.2 ⟨e, he, rfl⟩
 rw [h.key] at this
 obtain ⟨p, _, e1⟩ := List.mem_map.1 this
 exact ⟨p.1, p.2, e1.symm⟩
def wC (a b : Int) : List MapEntry → Nat → Option (Nat × Value)
 | [], _ => none
 | e :: es, i => if Yp a b e.key then some (i, e.val) else wC a b es (i + 1)
theorem uI (a b : Int) : ∀ (es : List MapEntry) (i : Nat), xL a b es = match wC a b es i with | some (_, v) => v | none => .slice none 0 0
 | [], _ => rfl
 | e :: es, i => by
  unfold xL wC
  split
  ·rfl
  ·exact uI a b es (i + 1)
theorem uj {t k : TypeId} (h : qf P t = some k) : ∃ e, P.underlying t = some (.map k e) ∧ (∀ w, (zeroValue e).run P w = .ok (.slice none 0 0) w) ∧ Xg P k = true := by
 unfold qf at h
 split at h
 ·rename_i k' e hu
  split at h
  ·rename_i i hi
   split at h
   ·rename_i hz
    cases hp : Xg P k' with
    | false => rw [hp] at h; cases h
    | true =>
     rw [hp] at h
     cases h
     exact ⟨e, hu, fun w => by simp [zeroValue, typeInfo, hi, hz], hp⟩
   ·cases h
  ·cases h
 ·cases h
theorem OH {k : TypeId} (hp : Xg P k = true) (hs : P.stoodInHeld k = false) (a b x y : Int) (w : World) :
  (Op.equal k (Ys a b) (Ys x y)).run P w = .ok (Yp a b (Ys x y)) w := by
 have := Ub (P := P) (w := w) (vs := #[.int .i64 a, .int .i64 b]) (us := #[.int .i64 x, .int .i64 y]) (a := a) (b := b) (c := x) (e := y) 9998 hp hs rfl rfl rfl rfl rfl rfl
 unfold Op.equal Op.maxDepth Ys
 rw [this]
 simp [Yp]
theorem wU {k : TypeId} (hp : Xg P k = true) (a b : Int) (w : World) (em : Bool) : (Instr.checkKey em 10000 k (Ys a b)).run P w = .ok () w := by
 obtain ⟨f, g, fs, hu, hf, n1, n2, u1, u2, o1, o2⟩ := uX hp
 have one : ∀ {t : TypeId} {v : Int}, P.underlying t = some (.int .i64) → (Instr.checkKey em 9999 t (.int .i64 v)).run P w = .ok () w := by
  intro t v ht
  unfold Instr.checkKey
  simp only [Sem.run_bind, run_underlying ht, Result.andThen_ok]
  rfl
 have q1 : (part f.type #[.int .i64 a, .int .i64 b] 0).run P w = .ok (.int .i64 a) w := Zp (sh := none) (Xy u1) (by simp)
 have q2 : (part g.type #[.int .i64 a, .int .i64 b] 1).run P w = .ok (.int .i64 b) w := Zp (sh := none) (Xy u2) (by simp)
 unfold Instr.checkKey Ys
 simp only [Sem.run_bind, run_underlying hu, Result.andThen_ok]
 have e : fs = #[f, g] := by apply Array.ext'; rw [hf]
 subst e
 simp [n1, n2, o1, o2, q1, q2, one u1, one u2]
theorem Ty {k : TypeId} (hp : Xg P k = true) (hs : P.stoodInHeld k = false) (a b : Int) (w : World) (es : List MapEntry) (hk : ∀ e ∈ es, ∃ x y, e.key = Ys x y) :
  (Instr.findKey k (Ys a b) es).run P w = .ok (wC a b es 0) w := by
 obtain ⟨f, g, fs, hu, hf, n1, n2, u1, u2, o1, o2⟩ := uX hp
 have ask : ∀ (es : List MapEntry) (i : Nat), (∀ e ∈ es, ∃ x y, e.key = Ys x y) → (Instr.findAsking k (Ys a b) es i).run P w = .ok (wC a b es i) w := by
  intro es
  induction es with
  | nil => intro i _; rfl
  | cons e es ih =>
   intro i h
   obtain ⟨x, y, he⟩ := h e (List.mem_cons_self ..)
   unfold Instr.findAsking wC
   rw [he]
   simp only [Sem.run_bind, OH hp hs, Result.andThen_ok]
   cases Yp a b (Ys x y) with
   | true => rfl
   | false => exact ih (i + 1) fun e' h' => h e' (List.mem_cons_of_mem _ h')
 unfold Instr.findKey
 simp only [Sem.run_bind, run_underlying hu, Result.andThen_ok]
 cases es with
 | nil => rfl
 | cons e es => exact ask (e :: es) 0 hk
theorem Qb {t : TypeId} {x ix r : AV} {a b : Value} {ps : List zn} (hM : Mem E nb bl S ρ w) (h : V5 P bl t x ix = some (ps, r)) (hp : ∀ p ∈ ps, p.holds)
  (hx : zF w S ρ x a) (hi : zF w S ρ ix b) : ∃ v, (Instr.lookup t a b false).run P w = .ok v w ∧ zF w S ρ r v := by
 unfold V5 at h
 split at h
 case h_2 => cases h
 rename_i m
 unfold iw at h
 split at h
 ·rename_i k ks f cs hm hB
  split at h
  ·rename_i i j h0 h1
   cases h
   have hs := cd (hp _ (List.mem_cons_self ..))
   obtain ⟨e, hu, hz, hpk⟩ := uj hm
   have hbk := hM.at m
   cases hx with
   | dmp hd _ =>
    have hbk := hbk.resolve_left (by rw [hd]; simp)
    rw [hB, hd] at hbk
    exact hbk.elim
   | mp g hg =>
    have hbk := hbk.resolve_left (by rw [hg]; simp)
    rw [hB, hg] at hbk
    obtain ⟨es, c1, c2, c3⟩ := hbk
    cases hi with
    | agg vs hn hr =>
     have e0 := ZW (h0 ▸ hr 0 (by omega))
     have e1 := ZW (h1 ▸ hr 1 (by omega))
     have ev : (Value.agg vs) = Ys i j := by
      unfold Ys
      congr 1
      apply Array.ext (by simp [hn])
      intro q hq _
      rw [Array.getD_eq_getD_getElem?, Array.getElem?_eq_getElem (by omega), Option.getD_some] at e0 e1
      obtain rfl | rfl : q = 0 ∨ q = 1 := by omega
      ·exact e0
      ·exact e1
     rw [ev]
     refine ⟨_, ?_, c3 i j⟩
     unfold Instr.lookup
     simp only [Sem.run_bind, run_underlying hu, Result.andThen_ok, MapKept.run_getObj_map c1, wU hpk, Sem.run_pure]
     rw [Ty hpk hs i j w es.toList c2.pairs]
     rw [uI i j es.toList 0]
     simp only [Result.andThen_ok]
     cases wC i j es.toList 0 with
     | none => simp [hz w]
     | some p => rfl
  ·cases h
 ·cases h
end
end Go.Sx
