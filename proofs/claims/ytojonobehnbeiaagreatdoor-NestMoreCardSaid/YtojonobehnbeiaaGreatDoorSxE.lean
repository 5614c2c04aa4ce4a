/- That the model does what the symbolic operations say: addresses, slices, calls of builtins; all operations together. -/
import Derived.Test.YtojonobehnbeiaaGreatDoorSxD
namespace Go.Sx
open Go Go.RowKit
section
variable {P : Program} {E : Env} {nb : Nat} {bl : Nat → OB} {S : Nat → Prop} {ρ : Nat → Own} {w : World}
theorem unAV_sound {op : UnOp} {x r : AV} {ps : List Cond} {a : Value} (h : unAV op x = some (ps, r)) (hp : ∀ p ∈ ps, p.holds) (hx : Rel w S ρ x a) :
    ∃ v, (Op.unary op a).run P w = .ok v w ∧ Rel w S ρ r v := by
  unfold unAV at h
  split at h
  · cases h
    obtain rfl := rel_v hx
    exact ⟨_, rfl, .v _⟩
  · rename_i p z
    cases h
    cases hx with
    | nb t ht => exact ⟨_, rfl, .nb (!t) fun e => ht (by cases t <;> cases p <;> simp_all)⟩
  · rename_i k n
    cases h
    obtain rfl := rel_v hx
    refine ⟨.int k (-n), ?_, .v _⟩
    have := wrap_in (cd (hp _ (List.mem_cons_self ..)))
    simp only [Op.unary, Op.intArith, Sem.run_pure]
    rw [show (0 - n) = -n by omega, this]
  · cases h
theorem convAV_sound {s d : TypeId} {x r : AV} {ps : List Cond} {a : Value} (h : convAV P s d x = some (ps, r)) (hp : ∀ p ∈ ps, p.holds) (hx : Rel w S ρ x a) :
    ∃ v, (convert s d a).run P w = .ok v w ∧ Rel w S ρ r v := by
  unfold convAV at h
  split at h
  · rename_i ds k k' n hs hd
    cases h
    obtain rfl := rel_v hx
    refine ⟨_, ?_, .v _⟩
    have := wrap_in (cd (hp _ (List.mem_cons_self ..)))
    simp [convert, run_underlying hs, run_underlying hd, Conv.intToInt, this]
  · rename_i ds l hs hd
    cases h
    obtain rfl := rel_str hx
    refine ⟨_, ?_, .str l⟩
    simp only [convert, Sem.run_bind, run_underlying hs, run_underlying hd, Result.andThen_ok]
    cases ds <;> rfl
  · cases h
theorem fieldOff_place {t : TypeId} {f d : Nat} (h : fieldOff P t f = some d) (a : Addr) :
    (Instr.fieldAt t (.pointer (some a)) f).run P w = .ok (.pointer (some (a.add d))) w := by
  unfold fieldOff at h
  split at h
  · rename_i fs hu
    split at h
    · rename_i fd hf
      split at h
      · rename_i i hi
        split at h
        · cases h
        · rename_i h0
          cases h
          have hc : ¬ P.cellsOf fd.type = 0 := by simp [Program.cellsOf, hi, h0]
          simp only [Instr.fieldAt, Sem.run_bind, run_underlying hu, Result.andThen_ok, hf, Instr.sureAddr, Sem.run_pure, fieldPlace, run_sizeOf w hi, hc, if_false]
      · cases h
    · cases h
  · cases h
theorem Mem.box (hM : Mem E nb bl S ρ w) {k : Nat} (h : isBox (bl k) = true) (h0 : ρ k = .dead) : False := by
  have hb := (hM.at k).resolve_left (by rw [h0]; simp)
  rw [h0] at hb
  cases hB : bl k <;> rw [hB] at hb h <;> first | exact hb.elim | cases h
theorem Mem.arr (hM : Mem E nb bl S ρ w) {k : Nat} (h : isArr (bl k) = true) (h0 : ρ k = .dead) : False := by
  have hb := (hM.at k).resolve_left (by rw [h0]; simp)
  rw [h0] at hb
  cases hB : bl k <;> rw [hB] at hb h <;> first | exact hb.elim | cases h
theorem shift_rel {x r : AV} {a : Value} {d : Nat} (hM : Mem E nb bl S ρ w) (h : x.shift bl d = some r) (hx : Rel w S ρ x a) :
    ∃ p, a = .pointer (some p) ∧ Rel w S ρ r (.pointer (some (p.add d))) := by
  cases hx with
  | np g hk =>
    simp only [AV.shift] at h
    split at h
    · cases h
      exact ⟨_, rfl, by rw [add_lit]; exact .np g hk⟩
    · cases h
  | ap g base cap sz L hk hi hc =>
    simp only [AV.shift] at h
    split at h
    · cases h
      exact ⟨_, rfl, by rw [add_lit, Nat.add_assoc]; exact .ap g base cap sz L hk hi hc⟩
    · cases h
  | apr g cap sz L sub hk hi hc =>
    simp only [AV.shift] at h
    split at h
    · cases h
      exact ⟨_, rfl, by rw [add_lit, Nat.add_assoc]; exact .apr g cap sz L sub hk hi hc⟩
    · cases h
  | xq A cvs hc hr =>
    cases h
    exact ⟨_, rfl, by rw [add_of_add]; exact .xq A cvs hc hr⟩
  | dnp hd hsh =>
    simp only [AV.shift] at h
    split at h
    · rename_i hb; exact (hM.box hb hd).elim
    · cases h
  | dap hd hsh =>
    simp only [AV.shift] at h
    split at h
    · rename_i hb; exact (hM.arr hb hd).elim
    · cases h
  | _ => simp [AV.shift] at h
theorem nil_rel {x r : AV} {a : Value} (hM : Mem E nb bl S ρ w) (h : nilAV bl x = some r) (hx : Rel w S ρ x a) :
    Rel w S ρ r a ∧ ((∃ p, a = .pointer (some p)) ∨ ∃ f vs us, a = .func (.func f) vs us) := by
  cases hx with
  | np g hk =>
    simp only [nilAV] at h
    split at h
    · cases h; exact ⟨.np g hk, .inl ⟨_, rfl⟩⟩
    · cases h
  | ap g base cap sz L hk hi hc =>
    simp only [nilAV] at h
    split at h
    · cases h; exact ⟨.ap g base cap sz L hk hi hc, .inl ⟨_, rfl⟩⟩
    · cases h
  | apr g cap sz L sub hk hi hc =>
    simp only [nilAV] at h
    split at h
    · cases h; exact ⟨.apr g cap sz L sub hk hi hc, .inl ⟨_, rfl⟩⟩
    · cases h
  | xq A cvs hc hr => cases h; exact ⟨.xq A cvs hc hr, .inl ⟨_, rfl⟩⟩
  | @fn _ f nf fi nc ca vs us hn hm hr hs =>
    cases f with
    | func f =>
      cases h
      exact ⟨.fn vs us hn hm hr hs, .inr ⟨_, _, _, rfl⟩⟩
    | _ => simp [nilAV] at h
  | dnp hd hsh =>
    simp only [nilAV] at h
    split at h
    · rename_i hb; exact (hM.box hb hd).elim
    · cases h
  | dap hd hsh =>
    simp only [nilAV] at h
    split at h
    · rename_i hb; exact (hM.arr hb hd).elim
    · cases h
  | _ => simp [nilAV] at h
theorem fieldAV_sound {t : TypeId} {f : Nat} {x r : AV} {a : Value} (h : fieldAV P t f x = some r) (hx : Rel w S ρ x a) :
    ∃ v, (Instr.field t a f).run P w = .ok v w ∧ Rel w S ρ r v := by
  unfold fieldAV at h
  split at h
  · rename_i fs n cs hu
    cases hx with
    | agg vs hn hr =>
      split at h
      · rename_i fd hf
        split at h
        · rename_i hs
          split at h
          · rename_i hlt
            cases h
            refine ⟨_, ?_, hr _ hlt⟩
            simp only [Instr.field, Sem.run_bind, run_underlying hu, Result.andThen_ok, hf, asAgg, Sem.run_pure]
            exact run_part_of (sh := none) hs (by rw [hn]; exact hlt)
          · cases h
        · rename_i m hs
          split at h
          · rename_i hlt
            cases h
            refine ⟨.agg (vs.extract fd.offset (fd.offset + m)), ?_, .agg _ (by simp; omega) fun i hi => ?_⟩
            · simp only [Instr.field, Sem.run_bind, run_underlying hu, Result.andThen_ok, hf, asAgg, Sem.run_pure]
              exact run_part_of (sh := some m) hs (by rw [hn]; exact hlt)
            · have := hr (fd.offset + i) (by omega)
              have e : (vs.extract fd.offset (fd.offset + m)).getD i undef = vs.getD (fd.offset + i) undef := by
                simp only [Array.getD_eq_getD_getElem?, Array.getElem?_extract]
                rw [if_pos (by omega)]
              rw [e]; exact this
          · cases h
        · cases h
      · cases h
  · cases h
theorem in_bound {n : Int} {len : Nat} (h : 0 ≤ n ∧ n < (len : Int)) : n.toNat < len := by omega
theorem indexAddr_sound {t : TypeId} {x ix r : AV} {a b : Value} {ps : List Cond} (hM : Mem E nb bl S ρ w) (h : indexAddrAV P bl t x ix = some (ps, r)) (hp : ∀ p ∈ ps, p.holds)
    (hx : Rel w S ρ x a) (hi : Rel w S ρ ix b) : ∃ v, (Instr.indexAt t a b).run P w = .ok v w ∧ Rel w S ρ r v := by
  unfold indexAddrAV at h
  split at h
  · rename_i k n
    obtain rfl := rel_v hi
    split at h
    · rename_i e hu
      split at h
      · rename_i i full sz len els hi'
        split at h
        · rename_i hc
          obtain ⟨hc1, hc2⟩ := hc
          cases h
          have hb := cd (hp _ (List.mem_cons_self ..))
          have hn := in_bound hb
          cases hx with
          | xl o cap cvs hle hm hf hcell hrel =>
            obtain ⟨A, rfl, _, _, _⟩ := hcell n.toNat 0 hn hc2
            refine ⟨.pointer (some (A.add (n.toNat * sz))), ?_, ?_⟩
            · simp only [Instr.indexAt, asIntOf, Sem.run_bind, run_underlying hu, Result.andThen_ok, Sem.run_pure, hb, and_self, if_true, run_sizeOf w hi']
              simp [Program.cellsOf, hi', hc1]
            · have := Rel.xq (w := w) (S := S) (ρ := ρ) (n := sz) (cells := els n.toNat) (off := 0) (A.add (n.toNat * sz)) (cvs n.toNat)
                (fun j hj => by
                  obtain ⟨A', e', h1, h2, h3⟩ := hcell n.toNat j hn hj
                  cases e'
                  exact ⟨by rw [block_of_add]; exact h1, by rw [add_of_add]; exact h2, h3⟩)
                (fun j hj => hrel n.toNat j hn hj)
              simpa [Addr.add] using this
        · cases h
      · rename_i i kk off len hi'
        split at h
        · rename_i t' sz L els hB
          split at h
          · rename_i hc
            cases h
            have hb := cd (hp _ (List.mem_cons_self ..))
            have hn := in_bound hb
            have hbk := hM.at kk
            cases hx with
            | ns g base cap sz' L' hk hl hcap =>
              have hbk := hbk.resolve_left (by rw [hk]; simp)
              rw [hB, hk] at hbk
              obtain ⟨e1, e2, _⟩ := hbk
              subst e1; subst e2
              refine ⟨.pointer (some ⟨g, (base + (off + n.toNat)) * sz' + 0, none⟩), ?_, .ap g base cap sz' L' hk (by omega) hcap⟩
              simp only [Instr.indexAt, asIntOf, Sem.run_bind, run_underlying hu, Result.andThen_ok, Sem.run_pure, hb, and_self, if_true, run_sizeOf w hi']
              rw [add_lit]
              simp only [Program.cellsOf, hi', Option.map_some, Option.getD_some, hc, Nat.add_zero, ← Nat.add_mul, Nat.add_assoc]
            | ns0 => omega
            | nsn => omega
            | nsr g cap sz' L' sub hk hl hcap =>
              have hbk := hbk.resolve_left (by rw [hk]; simp)
              rw [hB, hk] at hbk
              exact hbk.elim
            | nsv q o cap hk =>
              have hbk := hbk.resolve_left (by rw [hk]; simp)
              rw [hB, hk] at hbk
              exact hbk.elim
            | dns hd hsh => exact (hM.arr (by rw [hB]; rfl) hd).elim
          · cases h
        · rename_i t' sz L col te ssz els out hB
          split at h
          · rename_i hc
            cases h
            have hb := cd (hp _ (List.mem_cons_self ..))
            have hn := in_bound hb
            have hbk := hM.at kk
            cases hx with
            | ns g base cap sz' L' hk hl hcap =>
              have hbk := hbk.resolve_left (by rw [hk]; simp)
              rw [hB, hk] at hbk
              exact hbk.elim
            | ns0 => omega
            | nsn => omega
            | nsr g cap sz' L' sub hk hl hcap =>
              have hbk := hbk.resolve_left (by rw [hk]; simp)
              rw [hB, hk] at hbk
              obtain ⟨e1, e2, _⟩ := hbk
              subst e1; subst e2
              refine ⟨.pointer (some ⟨g, (off + n.toNat) * sz' + 0, none⟩), ?_, .apr g cap sz' L' sub hk (by omega) hcap⟩
              simp only [Instr.indexAt, asIntOf, Sem.run_bind, run_underlying hu, Result.andThen_ok, Sem.run_pure, hb, and_self, if_true, run_sizeOf w hi']
              rw [add_lit]
              simp only [Program.cellsOf, hi', Option.map_some, Option.getD_some, hc, Nat.add_zero, ← Nat.add_mul, Nat.add_assoc]
            | nsv q o cap hk =>
              have hbk := hbk.resolve_left (by rw [hk]; simp)
              rw [hB, hk] at hbk
              exact hbk.elim
            | dns hd hsh => exact (hM.arr (by rw [hB]; rfl) hd).elim
          · cases h
        · cases h
      · cases h
    · rename_i N e hu
      split at h
      · rename_i i kk a' hi'
        split at h
        · rename_i t' sz L els hB
          split at h
          · rename_i hc
            obtain ⟨hc1, hc2⟩ := hc
            cases h
            have hb := cd (hp _ (List.mem_cons_self ..))
            have hn := in_bound hb
            have hbk := hM.at kk
            cases hx with
            | ap g base cap sz' L' hk hi2 hcap =>
              have hbk := hbk.resolve_left (by rw [hk]; simp)
              rw [hB, hk] at hbk
              obtain ⟨e1, e2, _⟩ := hbk
              subst e1; subst e2
              refine ⟨.pointer (some ⟨g, (base + (a' + n.toNat)) * sz' + 0, none⟩), ?_, .ap g base cap sz' L' hk (by omega) hcap⟩
              simp only [Instr.indexAt, asIntOf, Sem.run_bind, run_underlying hu, Result.andThen_ok, Sem.run_pure, Instr.sureAddr, hb, and_self, if_true, run_sizeOf w hi']
              rw [add_lit]
              simp only [Program.cellsOf, hi', Option.map_some, Option.getD_some, hc1, Nat.add_zero, ← Nat.add_mul, Nat.add_assoc]
            | apr g cap sz' L' sub hk hi2 hcap =>
              have hbk := hbk.resolve_left (by rw [hk]; simp)
              rw [hB, hk] at hbk
              exact hbk.elim
            | dap hd hsh => exact (hM.arr (by rw [hB]; rfl) hd).elim
          · cases h
        · cases h
      · cases h
    · cases h
  · cases h
theorem indexAV_sound {t : TypeId} {x ix r : AV} {a b : Value} {ps : List Cond} (h : indexAV P t x ix = some (ps, r)) (hp : ∀ p ∈ ps, p.holds)
    (hx : Rel w S ρ x a) (hi : Rel w S ρ ix b) : ∃ v, (Instr.index t a b).run P w = .ok v w ∧ Rel w S ρ r v := by
  unfold indexAV at h
  split at h
  · rename_i l k n hu
    cases h
    obtain rfl := rel_v hi
    obtain rfl := rel_str hx
    have hb := cd (hp _ (List.mem_cons_self ..))
    have hn := in_bound hb
    refine ⟨_, ?_, .v _⟩
    have e : (⟨l.toArray⟩ : ByteArray)[n.toNat]? = some (l.getD n.toNat 0) := by
      have hs : n.toNat < (⟨l.toArray⟩ : ByteArray).size := by rw [Lib.size_eq]; simpa using hn
      rw [getElem?_pos (⟨l.toArray⟩ : ByteArray) n.toNat hs]
      congr 1
      simp [List.getD, hn]
      rfl
    simp only [Instr.index, asIntOf, Sem.run_bind, run_underlying hu, Result.andThen_ok, Sem.run_pure, hb.1, if_true, e]
  · cases h
end
end Go.Sx
