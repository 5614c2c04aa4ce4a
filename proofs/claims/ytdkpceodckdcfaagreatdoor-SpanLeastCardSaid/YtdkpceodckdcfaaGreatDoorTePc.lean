/- span.Least. -/
import Derived.Test.YtdkpceodckdcfaaGreatDoorTeOc
import Derived.Test.YtdkpceodckdcfaaGreatDoorArT
import Derived.Test.YtdkpceodckdcfaaGreatDoorSxSn
import Derived.Shelf.SlLaysF0
import Derived.Test.YtdkpceodckdcfaaGreatDoorProg
import Derived.Test.YtdkpceodckdcfaaGreatDoorSxSo
set_option linter.unusedSimpArgs false
set_option linter.unusedVariables false
namespace Go.Te
open Go Go.Sx Go.Proofs Go.Ar Go.RowKit
set_option maxRecDepth 100000
set_option maxHeartbeats 4000000
def okSr (r : Nat → AV) : Bool := Enc.ok (α := Sz) r && okS (Enc.dec r)
def cmpSr (r s : Nat → AV) : Int := ordS (Enc.dec r) (Enc.dec s)
def sortS := sortOf 3 60 okSr cmpSr
def lfB (l : List Row) (s q : Int) (a : Str) (x : Row) : Bool := fitB (findR l x.w x.d s q) a
def lfE (l : List Row) (s q : Int) (a : Str) (x : Row) : Int := fitE (findR l x.w x.d s q) a
def lsE (l : List Row) (s q : Int) (a : Str) : Int :=
  bif askE l 1 1 s q != 0 then askE l 1 1 s q else bif lnE a != 0 then lnE a
  else bif firstN (fun i => lfE l s q a (l.getD i r0)) l.length 0 != 0 then firstN (fun i => lfE l s q a (l.getD i r0)) l.length 0
  else bif Nat.beq (szs (lfB l s q a) l).length 0 then 25 else 0
def lsV (l : List Row) (s q : Int) (a : Str) : Sz := bif lsE l s q a == 0 then minS (szs (lfB l s q a) l) else s0
structure LsS where
  i : Nat
  out : List Sz
def szArr (l : List Sz) : OB := .arr 40 3 l.length fun i j => Enc.enc (l.getD i Enc.dflt) j
noncomputable def Tls (G : List (Nat × Obj)) : Tb := { (((((tb0 G).plus 55 ask_t).plus 56 csp_t).plus 58 allowed_t).plus 57 sfits_t) with own := fun g => bif Nat.beq g 59 then some sortS else none }
theorem lsV_bad {l : List Row} {s q : Int} {a : Str} (h : lsE l s q a ≠ 0) : lsV l s q a = s0 := by unfold lsV; rw [beq_false_of_ne h]; rfl
theorem ls_ask {l : List Row} {s q : Int} {a : Str} (h : askE l 1 1 s q ≠ 0) : lsE l s q a = askE l 1 1 s q := by unfold lsE; rw [bne_iff_ne.2 h]; rfl
theorem ls_len {l : List Row} {s q : Int} {a : Str} (h : askE l 1 1 s q = 0) (h2 : lnE a ≠ 0) : lsE l s q a = lnE a := by unfold lsE; rw [h, bne_iff_ne.2 h2]; rfl
theorem ls_fit {l : List Row} {s q : Int} {a : Str} (h : askE l 1 1 s q = 0) (h2 : lnE a = 0) {i : Nat} (hi : i < l.length) (h3 : ∀ j, j < i → lfE l s q a (l.getD j r0) = 0) (h4 : lfE l s q a (l.getD i r0) ≠ 0) : lsE l s q a = lfE l s q a (l.getD i r0) := by
  unfold lsE
  rw [h, h2, firstN_at hi h3 h4, bne_iff_ne.2 h4]; rfl
theorem ls_end {l : List Row} {s q : Int} {a : Str} (h : askE l 1 1 s q = 0) (h2 : lnE a = 0) (h3 : ∀ j, j < l.length → lfE l s q a (l.getD j r0) = 0) : lsE l s q a = bif Nat.beq (szs (lfB l s q a) l).length 0 then 25 else 0 := by
  unfold lsE
  rw [h, h2, firstN_none h3]; rfl
theorem ask_rows {l : List Row} {w d s q : Int} (h : askE l w d s q = 0) : tabE l = 0 ∧ ∀ x ∈ l, (1 ≤ x.w ∧ x.w ≤ 1000) ∧ (1 ≤ x.d ∧ x.d ≤ 1000) := by
  obtain ⟨ht, _⟩ := ask_split.1 h
  refine ⟨ht, fun x hx => ?_⟩
  obtain ⟨i, hi, rfl⟩ := List.getElem_of_mem hx
  obtain ⟨h1, _⟩ := rowE_ok ((tabE_ok ht).2 i hi)
  have e : l.getD i r0 = l[i] := by rw [List.getD_eq_getElem?_getD, List.getElem?_eq_getElem hi]; rfl
  rw [e] at h1
  unfold rangB at h1
  simp only [Bool.and_eq_true, between_iff] at h1
  exact h1.1
theorem ln_rat {a : Str} (h : lnE a = 0) : ratE a = 0 := by
  refine Decidable.byContradiction fun e => ?_
  unfold lnE at h
  rw [bne_iff_ne.2 e] at h
  exact e h
def ls_an (l : List Row) (s q : Int) (a : Str) : Ann :=
  .two .auto (.two .auto (.two .auto (.two .auto (.two (.two .auto (.one (.loop LsS (fun σ z => [(0, σ.tm 0), (1, σ.tm 1), (2, σ.tm 2), (3, σ.tm 3), (8, σ.tm 8), (31, σ.tm 31), (32, σ.tm 32), (12, .ns σ.nb 0 z.out.length), (33, .i z.i)]) (fun σ z => [(σ.nb, szArr z.out)]) 1 (fun σ z => z.i ≤ l.length ∧ z.out = szs (lfB l s q a) (l.take z.i) ∧ ∀ i, i < z.i → lfE l s q a (l.getD i r0) = 0) (fun σ z => l.length - z.i) .auto))) .auto))))
theorem ls_vc (G : List (Nat × Obj)) (l : List Row) (s q : Int) (a : Str) (hl : a.length ≤ 4294967280) :
 let q2 := (AV.xl false 5 (List.length l) fun i j => Enc.enc (List.getD l i Enc.dflt) j); let q1 := (slOk Row q2); let q3 := (rowsOf q2); let q4 := (True ∧ 3 = 3 ∧ ((IntKind.i64 = .i64 ∧ (0 : Int) = Sz.k (lsV l s q a)) ∧ IntKind.i64 = .i64 ∧ (0 : Int) = Sz.w (lsV l s q a)) ∧ IntKind.i64 = .i64 ∧ (0 : Int) = Sz.d (lsV l s q a)); let q5 := (IntKind.i64 = .i64 ∧ (↑(List.length l) : Int) = (↑(List.length l) : Int)); let q6 := (40 = 40 ∧ 3 = 3 ∧ ((IntKind.i64 = .i64 ∧ (0 : Int) = (0 : Int)) ∧ IntKind.i64 = .i64 ∧ (0 : Int) = (0 : Int)) ∧ IntKind.i64 = .i64 ∧ (0 : Int) = (0 : Int)); bndL [AV.xl false
 5 (List.length l) fun i j => Enc.enc (List.getD l i Enc.dflt) j, AV.v (Value.int .i64 s), AV.v (Value.int .i64 q), AV.str a] → bsplit q1 (bsplit (askE q3 (1 : Int) (1 : Int) s q != (0 : Int)) (2 = List.length [AV.junk, AV.junk] ∧ q4 ∧ IntKind.i64 = .i64 ∧ askE q3 (1 : Int) (1 : Int) s q = lsE l s q a) (List.length a ≤ 4294967280 ∧ bsplit (lnE a != (0 : Int)) (2 = List.length [AV.junk, AV.junk] ∧ q4 ∧ IntKind.i64 = .i64 ∧ lnE a = lsE l s q a) ((∃ (z : LsS), ((LsS.i z ≤ List.length l ∧ LsS.out z = szs (lfB l s q a) (List.take (LsS.i z) l) ∧ ∀ (i : Nat), i < LsS.i z → lfE l s q a (List.getD l i
 r0) = (0 : Int)) ∧ avM q2 q2 ∧ (IntKind.i64 = .i64 ∧ s = s) ∧ (IntKind.i64 = .i64 ∧ q = q) ∧ a = a ∧ (nat_lit 0 = 0 ∧ 0 = 0) ∧ avM q2 q2 ∧ q5 ∧ (some (Non Nat) = some (Non Nat) ∧ 0 = 0 ∧ List.length (LsS.out z) = 0) ∧ IntKind.i64 = .i64 ∧ (0 : Int) = (↑(LsS.i z) : Int)) ∧ q6 ∧ List.length (LsS.out z) = 0) ∧ ∀ (z : LsS), let q8 := (List.getD l (Int.toNat (↑(LsS.i z) : Int)) Enc.dflt); let q7 := (Row.w q8); let q9 := (Row.d q8); let q10 := (findR q3 q7 q9 s q); let q11 := (DB.db (inK .i64 ((↑(LsS.i z) : Int) + (1 : Int)))); (LsS.i z ≤ List.length l ∧ LsS.out z = szs (lfB l s q a) (List.take
 (LsS.i z) l) ∧ ∀ (i : Nat), i < LsS.i z → lfE l s q a (List.getD l i r0) = (0 : Int)) → bsplit (ltB (↑(LsS.i z) : Int) (↑(List.length l) : Int)) (bsplit (DB.db ((0 : Int) ≤ (↑(LsS.i z) : Int) ∧ (↑(LsS.i z) : Int) < (↑(List.length l) : Int))) (bsplit q1 (((-9223372036854775808 : Int) ≤ findR q3 q7 q9 s q ∧ findR q3 q7 q9 s q ≤ (9223372036854775807 : Int)) ∧ List.length a ≤ 4294967280 ∧ ratE a = (0 : Int) ∧ bsplit (fitE q10 a != (0 : Int)) (2 = List.length [AV.junk, AV.junk] ∧ q4 ∧ IntKind.i64 = .i64 ∧ fitE q10 a = lsE l s q a) (bsplit (fitB q10 a) (bsplit (DB.db ((List.length (LsS.out z) + 1) *
 24 ≤ 140737488355328)) (bsplit q11 (∃ (z' : LsS), (((LsS.i z' ≤ List.length l ∧ LsS.out z' = szs (lfB l s q a) (List.take (LsS.i z') l) ∧ ∀ (i : Nat), i < LsS.i z' → lfE l s q a (List.getD l i r0) = (0 : Int)) ∧ List.length l - LsS.i z' < List.length l - LsS.i z) ∧ avM q2 q2 ∧ (IntKind.i64 = .i64 ∧ s = s) ∧ (IntKind.i64 = .i64 ∧ q = q) ∧ a = a ∧ (nat_lit 0 = 0 ∧ 0 = 0) ∧ avM q2 q2 ∧ q5 ∧ (nat_lit 1 = 1 ∧ 0 = 0 ∧ List.length (LsS.out z') = List.length (LsS.out z) + 1) ∧ IntKind.i64 = .i64 ∧ (↑(LsS.i z) : Int) + (1 : Int) = (↑(LsS.i z') : Int)) ∧ q6 ∧ (40 : TypeId) = 40 ∧ 3 = 3 ∧ List.length
 (LsS.out z') = List.length (LsS.out z) + 1 ∧ ∀ (i j : Nat), i < List.length (LsS.out z) + 1 → j < 3 → avM (if i < List.length (LsS.out z) then Enc.enc (List.getD (LsS.out z) i Enc.dflt) j else Sx.rowAt [listFn [AV.v (Array.getD (Value.cells (Value.agg #[Value.int .i64 (0 : Int), Value.int .i64 (0 : Int), Value.int .i64 (0 : Int)])) 0 undef), AV.v (Value.int .i64 q7), AV.v (Value.int .i64 q9)]] (i - List.length (LsS.out z)) j) (Enc.enc (List.getD (LsS.out z') i Enc.dflt) j)) False) False) (bsplit q11 (∃ (z' : LsS), (((LsS.i z' ≤ List.length l ∧ LsS.out z' = szs (lfB l s q a) (List.take (LsS.i
 z') l) ∧ ∀ (i : Nat), i < LsS.i z' → lfE l s q a (List.getD l i r0) = (0 : Int)) ∧ List.length l - LsS.i z' < List.length l - LsS.i z) ∧ avM q2 q2 ∧ (IntKind.i64 = .i64 ∧ s = s) ∧ (IntKind.i64 = .i64 ∧ q = q) ∧ a = a ∧ (nat_lit 0 = 0 ∧ 0 = 0) ∧ avM q2 q2 ∧ q5 ∧ (nat_lit 1 = 1 ∧ 0 = 0 ∧ List.length (LsS.out z') = List.length (LsS.out z)) ∧ IntKind.i64 = .i64 ∧ (↑(LsS.i z) : Int) + (1 : Int) = (↑(LsS.i z') : Int)) ∧ q6 ∧ 40 = 40 ∧ 3 = 3 ∧ List.length (LsS.out z') = List.length (LsS.out z) ∧ ∀ (i j : Nat), i < List.length (LsS.out z) → j < 3 → avM (Enc.enc (List.getD (LsS.out z) i Enc.dflt) j)
 (Enc.enc (List.getD (LsS.out z') i Enc.dflt) j)) False))) False) False) (bsplit ((↑(List.length (LsS.out z)) : Int) == (0 : Int)) (2 = List.length [AV.junk, AV.junk] ∧ q4 ∧ IntKind.i64 = .i64 ∧ (25 : Int) = lsE l s q a) (bsplit (Nat.beq (List.length (LsS.out z)) (List.length (LsS.out z)) && Nat.beq 3 3 && Nat.blt (nat_lit 1) (nat_lit 2) && Nat.beq 60 60) ((List.length (LsS.out z) < 4611686018427387904 ∧ ∀ (i : Nat), i < List.length (LsS.out z) → (okSr fun (j : Nat) => Enc.enc (List.getD (LsS.out z) i Enc.dflt) j) = true) ∧ ∀ (p : List Nat), let q12 := (List.getD (LsS.out z) (List.getD p 0 0)
 Enc.dflt); List.Perm p (List.range (List.length (LsS.out z))) ∧ List.Pairwise (fun i j => ¬(cmpSr (fun (j_1 : Nat) => Enc.enc (List.getD (LsS.out z) j Enc.dflt) j_1) fun (j : Nat) => Enc.enc (List.getD (LsS.out z) i Enc.dflt) j) < (0 : Int)) p → bsplit (DB.db ((0 : Int) ≤ (0 : Int) ∧ (0 : Int) < (↑(List.length (LsS.out z)) : Int))) (2 = List.length [AV.junk, AV.junk] ∧ (True ∧ 3 = 3 ∧ ((IntKind.i64 = .i64 ∧ Sz.k q12 = Sz.k (lsV l s q a)) ∧ IntKind.i64 = .i64 ∧ Sz.w q12 = Sz.w (lsV l s q a)) ∧ IntKind.i64 = .i64 ∧ Sz.d q12 = Sz.d (lsV l s q a)) ∧ IntKind.i64 = .i64 ∧ (0 : Int) = lsE l s q a)
 False) False))))) False := by
  dsimp only
  intro hb
  have e2 : (Enc.dflt : Row) = r0 := rfl
  have e3 : (Enc.dflt : Sz) = s0 := rfl
  simp only [↓vc_db, ↓vc_gdb, row_one]
  simp only [sS, agD_row, agOk_row, agD_row', agOk_row', okIn, okIn', deI, deI', okR, okR', deR, deR', deRo, deRo', e2, e3]
  refine ⟨fun h => ?_, fun h => ⟨hl, fun h2 => ?_, fun h2 => ⟨⟨⟨0, []⟩, ⟨⟨Nat.zero_le _, rfl, fun i hi => absurd hi (Nat.not_lt_zero _)⟩, rfl, rfl⟩, rfl⟩, fun z ⟨z1, z2, z3⟩ => ⟨fun hz => ⟨⟨by omega, hz⟩, ?_, hl, ln_rat h2, fun h4 => ?_, fun h4 => ?_⟩, fun hz => ?_⟩⟩⟩⟩
  · have e := ls_ask (a := a) h
    rw [lsV_bad (by rw [e]; exact h), e]
    exact ⟨rfl, ⟨⟨rfl, rfl⟩, rfl⟩, rfl⟩
  · have e := ls_len h h2
    rw [lsV_bad (by rw [e]; exact h2), e]
    exact ⟨rfl, ⟨⟨rfl, rfl⟩, rfl⟩, rfl⟩
  · have := find_bound (w := (l.getD z.i r0).w) (d := (l.getD z.i r0).d) (s := s) (q := q) (ask_rows h).1
    omega
  · have e := ls_fit h h2 (i := z.i) (by omega) z3 h4
    rw [lsV_bad (by rw [e]; exact h4), e]
    exact ⟨rfl, ⟨⟨rfl, rfl⟩, rfl⟩, rfl⟩
  · have hl6 := (tabE_ok (ask_rows h).1).1
    have hlo : z.out.length ≤ z.i := by rw [z2]; exact Nat.le_trans szs_len (by rw [List.length_take]; omega)
    have ht : l.take (z.i + 1) = l.take z.i ++ [l.getD z.i r0] := take_snoc (d := r0) (by omega)
    have n3 : ∀ i, i < z.i + 1 → lfE l s q a (l.getD i r0) = 0 := fun i hi => by
      by_cases e : i = z.i
      · rw [e]; exact h4
      · exact z3 i (by omega)
    have hs : szs (lfB l s q a) (l.take (z.i + 1)) = z.out ++ bif fitB (findR l (l.getD z.i r0).w (l.getD z.i r0).d s q) a then [⟨0, (l.getD z.i r0).w, (l.getD z.i r0).d⟩] else [] := by
      rw [ht, szs_snoc, ← z2]; rfl
    refine bsplit_iff.2 ⟨fun c => ⟨by omega, ⟨by omega, by omega⟩, ⟨z.i + 1, z.out ++ [⟨0, (l.getD z.i r0).w, (l.getD z.i r0).d⟩]⟩, ⟨⟨⟨by simp only; omega, ?_, n3⟩, by simp only; omega⟩, by simp, by simp⟩, by simp, fun i j hi hj => ?_⟩,
      fun c => ⟨⟨by omega, by omega⟩, ⟨z.i + 1, z.out⟩, ⟨⟨⟨by simp only; omega, ?_, n3⟩, by simp only; omega⟩, rfl, by simp⟩, rfl, fun i j _ _ => avM_refl _⟩⟩
    · show _ = _
      rw [hs, c]; rfl
    · by_cases hi2 : i < z.out.length
      · rw [if_pos hi2, show (z.out ++ [(⟨0, (l.getD z.i r0).w, (l.getD z.i r0).d⟩ : Sz)]).getD i s0 = z.out.getD i s0 by simp [List.getD_eq_getElem?_getD, List.getElem?_append_left hi2]]
        exact avM_refl _
      · obtain rfl : i = z.out.length := by omega
        rw [if_neg hi2, show (z.out ++ [(⟨0, (l.getD z.i r0).w, (l.getD z.i r0).d⟩ : Sz)]).getD z.out.length s0 = ⟨0, (l.getD z.i r0).w, (l.getD z.i r0).d⟩ by simp [List.getD_eq_getElem?_getD]]
        match j, hj with
        | 0, _ => exact avM_refl _
        | 1, _ => exact avM_refl _
        | 2, _ => exact avM_refl _
    · show _ = _
      rw [hs, c, cond_false, List.append_nil]
  · have hzl : z.i = l.length := by omega
    rw [hzl, List.take_length] at z2
    rw [hzl] at z3
    have e := ls_end h h2 z3
    rw [← z2] at e
    have hl6 := (tabE_ok (ask_rows h).1).1
    have hlo : z.out.length ≤ l.length := by rw [z2]; exact szs_len
    refine ⟨fun h0 => ?_, fun h0 => ?_⟩
    · rw [show Nat.beq z.out.length 0 = true by rw [show z.out.length = 0 by omega]; rfl] at e
      rw [lsV_bad (by rw [e]; decide), e]
      exact ⟨rfl, ⟨⟨rfl, rfl⟩, rfl⟩, rfl⟩
    · have hne : z.out ≠ [] := fun e => h0 (by rw [e]; rfl)
      rw [show Nat.beq z.out.length 0 = false from Bool.eq_false_iff.2 fun e => h0 (by rw [Nat.eq_of_beq_eq_true e]; rfl)] at e
      have ev : lsV l s q a = minS z.out := by unfold lsV; rw [e, ← z2]; rfl
      have hk : ∀ x ∈ z.out, (1 ≤ x.w ∧ x.k = 0) ∧ okS x = true := fun x hx => by
        rw [z2] at hx
        obtain ⟨y, hy, _, rfl⟩ := szs_mem.1 hx
        have := (ask_rows h).2 y hy
        refine ⟨⟨this.1.1, rfl⟩, ?_⟩
        unfold okS
        rw [Bool.and_eq_true, between_iff, between_iff]
        simp only
        omega
      refine bsplit_iff.2 ⟨fun _ => ⟨⟨by omega, fun i hi => ?_⟩, fun p ⟨p1, p2⟩ => ⟨⟨by omega, by omega⟩, rfl, ?_, e.symm⟩⟩, fun hc => ?_⟩
      · have hm : z.out.getD i s0 ∈ z.out := by
          rw [List.getD_eq_getElem?_getD, List.getElem?_eq_getElem hi]
          exact List.getElem_mem hi
        exact (hk _ hm).2
      · rw [ev, ← minS_only hne (fun x hx => (hk x hx).1) p1 p2]
        exact ⟨⟨rfl, rfl⟩, rfl⟩
      · rw [show z.out.length.beq z.out.length = true from Nat.beq_refl _] at hc
        cases hc
end Go.Te

namespace Go.Proofs
open Go.Shelf
def Tryz.sortCut_ren : Go.Shelf.Ren := ⟨fun | 6 => 59 | 15 => 113 | 14 => 112 | 28 => 172 | 29 => 173 | 20 => 164 | 21 => 165 | 22 => 166 | 23 => 167 | 24 => 168 | 25 => 169 | 26 => 170 | 27 => 171 | 46 => 213 | 47 => 214 | 48 => 215 | 49 => 216 | 50 => 217 | 57 => 243 | n => n, fun | 22 => 91 | 24 => 40 | 25 => 93 | 3 => 3 | 39 => 155 | 0 => 0 | 53 => 201 | 55 => 203 | 4 => 4 | 46 => 195 | 45 => 194 | 50 => 185 | 5 => 5 | 9 => 9 | 66 => 227 | 70 => 159 | 76 => 250 | 77 => 121 | n => n, fun | n => n⟩
theorem Tryz.sortCut : Go.Proofs.SlLaysF0.n6 Tryz.prog Tryz.sortCut_ren := {
  mixed := by kernel_rfl
  f6 := ⟨Tryz.f59.name, by decide, Tryz.func59.trans (congrArg some (by kernel_rfl))⟩
  f14 := ⟨Tryz.f112.name, by decide, Tryz.func112.trans (congrArg some (by kernel_rfl))⟩
  f15 := Tryz.func113.trans (congrArg some (by kernel_rfl))
  f20 := ⟨Tryz.f164.name, by decide, Tryz.func164.trans (congrArg some (by kernel_rfl))⟩
  f21 := ⟨Tryz.f165.name, by decide, Tryz.func165.trans (congrArg some (by kernel_rfl))⟩
  f22 := ⟨Tryz.f166.name, by decide, Tryz.func166.trans (congrArg some (by kernel_rfl))⟩
  f23 := ⟨Tryz.f167.name, by decide, Tryz.func167.trans (congrArg some (by kernel_rfl))⟩
  f24 := ⟨Tryz.f168.name, by decide, Tryz.func168.trans (congrArg some (by kernel_rfl))⟩
  f25 := ⟨Tryz.f169.name, by decide, Tryz.func169.trans (congrArg some (by kernel_rfl))⟩
  f26 := ⟨Tryz.f170.name, by decide, Tryz.func170.trans (congrArg some (by kernel_rfl))⟩
  f27 := ⟨Tryz.f171.name, by decide, Tryz.func171.trans (congrArg some (by kernel_rfl))⟩
  f28 := Tryz.func172.trans (congrArg some (by kernel_rfl))
  f29 := Tryz.func173.trans (congrArg some (by kernel_rfl))
  f46 := ⟨Tryz.f213.name, by decide, Tryz.func213.trans (congrArg some (by kernel_rfl))⟩
  f47 := Tryz.func214.trans (congrArg some (by kernel_rfl))
  f48 := Tryz.func215.trans (congrArg some (by kernel_rfl))
  f49 := ⟨Tryz.f216.name, by decide, Tryz.func216.trans (congrArg some (by kernel_rfl))⟩
  f50 := ⟨Tryz.f217.name, by decide, Tryz.func217.trans (congrArg some (by kernel_rfl))⟩
  f57 := ⟨Tryz.f243.name, by decide, Tryz.func243.trans (congrArg some (by kernel_rfl))⟩
  t0 := Tryz.underlying0
  a0 := Tryz.isAgg0
  z0 := Tryz.sizeOf0
  v0 := Tryz.zeroValue0
  t3 := Tryz.underlying3
  a3 := Tryz.isAgg3
  z3 := Tryz.sizeOf3
  v3 := Tryz.zeroValue3
  t4 := Tryz.underlying4
  a4 := Tryz.isAgg4
  z4 := Tryz.sizeOf4
  v4 := Tryz.zeroValue4
  t5 := Tryz.underlying5
  a5 := Tryz.isAgg5
  z5 := Tryz.sizeOf5
  v5 := Tryz.zeroValue5
  t9 := Tryz.underlying9
  a9 := Tryz.isAgg9
  z9 := Tryz.sizeOf9
  v9 := Tryz.zeroValue9
  t22 := Tryz.underlying91
  a22 := Tryz.isAgg91
  z22 := Tryz.sizeOf91
  v22 := Tryz.zeroValue91
  t25 := Tryz.underlying93
  a25 := Tryz.isAgg93
  z25 := Tryz.sizeOf93
  v25 := Tryz.zeroValue93
  t39 := Tryz.underlying155
  a39 := Tryz.isAgg155
  z39 := Tryz.sizeOf155
  v39 := Tryz.zeroValue155
  t45 := Tryz.underlying194
  a45 := Tryz.isAgg194
  z45 := Tryz.sizeOf194
  v45 := Tryz.zeroValue194
  t46 := Tryz.underlying195
  a46 := Tryz.isAgg195
  z46 := Tryz.sizeOf195
  v46 := Tryz.zeroValue195
  t50 := Tryz.underlying185
  a50 := Tryz.isAgg185
  z50 := Tryz.sizeOf185
  v50 := Tryz.zeroValue185
  t53 := Tryz.underlying201
  a53 := Tryz.isAgg201
  z53 := Tryz.sizeOf201
  v53 := Tryz.zeroValue201
  t55 := Tryz.underlying203
  a55 := Tryz.isAgg203
  z55 := Tryz.sizeOf203
  v55 := Tryz.zeroValue203
  t66 := Tryz.underlying227
  a66 := Tryz.isAgg227
  z66 := Tryz.sizeOf227
  v66 := Tryz.zeroValue227
  t70 := Tryz.underlying159
  a70 := Tryz.isAgg159
  z70 := Tryz.sizeOf159
  v70 := Tryz.zeroValue159
  t76 := Tryz.underlying250
  a76 := Tryz.isAgg250
  z76 := Tryz.sizeOf250
  v76 := Tryz.zeroValue250
  t77 := Tryz.underlying121
  a77 := Tryz.isAgg121
  z77 := Tryz.sizeOf121
  v77 := Tryz.zeroValue121 }
end Go.Proofs

namespace Go.Te
open Go Go.Sx Go.Proofs Go.Ar Go.RowKit Go.Shelf
set_option maxRecDepth 100000
theorem size_cmp : CmpK Tryz.prog 3 60 okSr cmpSr where
  pos := by decide
  ent := enters_of Tryz.func60 (by kernel_rfl) rfl
  call := fun r s hr hs => by
    unfold okSr at hr hs
    rw [Bool.and_eq_true] at hr hs
    have ar : agOk Sz (.agg 3 r) = true := hr.1
    have a2 : agOk Sz (.agg 3 s) = true := hs.1
    exact weaken (ys := [_, _]) ⟨agE_sound ar, agE_sound a2, trivial⟩ (bySize_C _ _ hr.2 hs.2)
  swo := fun els f => by
    refine ⟨fun x => ?_, fun x y z h1 h2 => ?_, fun x y z h1 h2 => ?_⟩ <;>
      simp only [ltOf, cmpSr, decide_eq_true_eq, decide_eq_false_iff_not, ordS_lt] at *
    · omega
    · omega
    · omega
theorem sortS_own (G : List (Nat × Obj)) : OwnT Tryz.prog G 59 sortS :=
  sort_own Tryz.sortCut (enters_of Tryz.func59 (by kernel_rfl) rfl) Tryz.isAgg40 Tryz.sizeOf40 size_cmp G
theorem Tls_sound {G : List (Nat × Obj)} (hG : TabIn G) : TbSound Tryz.prog (Tls G) := by
  have h := TbSound.plus (TbSound.plus (TbSound.plus (TbSound.plus (tb0_sound (P := Tryz.prog) (objs := G)) (PureT.mono ask_T)) (csp_T hG)) (PureT.mono allowed_T)) (sfits_T hG)
  refine ⟨fun f t e => ?_, h.pu, h.fre⟩
  have e' : (bif Nat.beq f 59 then some sortS else none) = some t := e
  rcases beq_cases f 59 with ⟨hb, hf⟩ | ⟨hb, hf⟩
  · rw [hb] at e'
    cases e'
    rw [hf]
    exact sortS_own _
  · rw [hb] at e'
    cases e'
theorem ls_C {G : List (Nat × Obj)} (hG : TabIn G) (l : List Row) (s q : Int) (a : Str) (hl : a.length ≤ 4294967280) : PureCall Tryz.prog G 17 [slE l, .i s, .i q, .str a] (.tup 2 (listFn [agE (lsV l s q a), .i (lsE l s q a)])) :=
  pure_of_vc (an := ls_an l s q a) mixed (Tls_sound hG) (Eq.mp (by kernel_rfl) (ls_vc G l s q a hl))
def ls_t : List AV → Option (List Cond × AV)
  | [x, .v (.int .i64 s), .v (.int .i64 q), .str a] => some ([.b (slOk Row x), .p (a.length ≤ 4294967280)], .tup 2 (listFn [agE (lsV (rowsOf x) s q a), .i (lsE (rowsOf x) s q a)]))
  | _ => none
theorem ls_T {G : List (Nat × Obj)} (hG : TabIn G) : PureT Tryz.prog G 17 ls_t := by
  intro xs ps r h hp
  unfold ls_t at h
  split at h
  · rename_i x s q a
    cases h
    obtain ⟨q0, q1, -⟩ := allC hp
    exact weaken (ys := [_, _, _, _]) ⟨slE_sound q0, avM_refl _, avM_refl _, avM_refl _, trivial⟩ (ls_C hG _ s q a q1)
  · cases h
end Go.Te

namespace Go.Te
open Go Go.Sx Go.Proofs Go.Ar Go.RowKit
set_option maxRecDepth 100000
set_option maxHeartbeats 4000000
def hasK (w d : Int) (x : Row) : Bool := x.w == w && x.d == d
def szC (s : Sz) : AV := .xq 3 (fun j => Enc.enc s j) 0
theorem hasR_vc (x : Row) (s : Sz) :
 let q1 := (!bsel true (Row.w x == Sz.w s) || bsel true (Row.w x == Sz.w s)); bndL [AV.agg 5 (Enc.enc x), AV.xq 3 (fun (j : Nat) => Enc.enc s j) 0] → bsplit q1 (bsplit q1 (bsplit q1 (bsplit q1 (bsplit (!Row.w x == Sz.w s || bsel true (Row.w x == Sz.w s)) ((bif Row.w x == Sz.w s then Row.d x == Sz.d s else false) = hasK (Sz.w s) (Sz.d s) x) False) False) False) False) False := by
  dsimp only
  intro hb
  have e2 : (Enc.dflt : Row) = r0 := rfl
  simp only [sS, agD_row, agOk_row, agD_row', agOk_row', okIn, okIn', deI, deI', okR, okR', deR, deR', deRo, deRo', e2]
  rfl
def hasR_t : List AV → Option (List Cond × AV)
  | [x, .xq 3 c 0] => some ([.b (agOk Row x), .b (Enc.ok (α := Sz) c)], .b (hasK (Enc.dec (α := Sz) c).w (Enc.dec (α := Sz) c).d (agD x)))
  | _ => none
theorem hasR_T : PureT Tryz.prog [] 19 hasR_t := by
  intro xs ps r h hp
  unfold hasR_t at h
  split at h
  · rename_i x c
    cases h
    obtain ⟨q0, q1, -⟩ := allC hp
    exact weaken (ys := [agE (agD x), szC (Enc.dec c)]) ⟨agE_sound q0, ⟨rfl, rfl, allB_of fun i hi => Enc.sound _ q1 i hi⟩, trivial⟩
      (pure_of_vc (an := .auto) mixed tb0_sound (Eq.mp (by kernel_rfl) (hasR_vc (agD x) (Enc.dec c))))
  · cases h
def fnS (s : Sz) : AV := .fn (.func 19) 0 (fun _ => .junk) 1 (fun _ => szC s)
noncomputable def Tco (l : List Row) (s : Sz) : Tb := (T0.plus 19 hasR_t).body Tryz.prog [(61, idx_an l (hasK s.w s.d))]
theorem Tco_sound (l : List Row) (s : Sz) : TbSound Tryz.prog (Tco l s) := TbSound.body mixed (TbSound.plus tb0_sound hasR_T) _
theorem conS_vc (l : List Row) (s : Sz) :
 let q1 := (AV.xl false 5 (List.length l) fun i j => Enc.enc (List.getD l i Enc.dflt) j); let q2 := (AV.fn (Fn.func (19 : FuncId)) 0 (fun (x : Nat) => AV.junk) 1 fun (x : Nat) => AV.xq 3 (fun (j : Nat) => Enc.enc s j) 0); let q3 := (IntKind.i64 = .i64 ∧ (↑(List.length l) : Int) = (↑(List.length l) : Int)); bndL [AV.xl false 5 (List.length l) fun i j => Enc.enc (List.getD l i Enc.dflt) j, AV.fn (Fn.func (19 : FuncId)) 0 (fun (x : Nat) => AV.junk) 1 fun (x : Nat) => AV.xq 3 (fun (j : Nat) => Enc.enc s j) 0] → (∃ (z : Nat), ((z ≤ List.length l ∧ idxF (hasK (Sz.w s) (Sz.d s)) (List.drop z l) z =
 idxF (hasK (Sz.w s) (Sz.d s)) l 0) ∧ avM q1 q1 ∧ avM q2 q2 ∧ avM q1 q1 ∧ q3 ∧ IntKind.i64 = .i64 ∧ (0 : Int) = (↑z : Int)) ∧ True) ∧ ∀ (z : Nat), z ≤ List.length l ∧ idxF (hasK (Sz.w s) (Sz.d s)) (List.drop z l) z = idxF (hasK (Sz.w s) (Sz.d s)) l 0 → bsplit (ltB (↑z : Int) (↑(List.length l) : Int)) (bsplit (DB.db ((0 : Int) ≤ (↑z : Int) ∧ (↑z : Int) < (↑(List.length l) : Int))) (bsplit (hasK (Sz.w (Enc.dec fun (j : Nat) => Enc.enc s j)) (Sz.d (Enc.dec fun (j : Nat) => Enc.enc s j)) (agD (AV.agg 5 fun (i : Nat) => Enc.enc (List.getD l (Int.toNat (↑z : Int)) Enc.dflt) (0 + i)))) (leB (0 : Int)
 (↑z : Int) = List.any l (hasK (Sz.w s) (Sz.d s))) (bsplit (DB.db (inK .i64 ((↑z : Int) + (1 : Int)))) (∃ (z' : Nat), (((z' ≤ List.length l ∧ idxF (hasK (Sz.w s) (Sz.d s)) (List.drop z' l) z' = idxF (hasK (Sz.w s) (Sz.d s)) l 0) ∧ List.length l - z' < List.length l - z) ∧ avM q1 q1 ∧ avM q2 q2 ∧ avM q1 q1 ∧ q3 ∧ IntKind.i64 = .i64 ∧ (↑z : Int) + (1 : Int) = (↑z' : Int)) ∧ True) False)) False) (leB (0 : Int) (-1 : Int) = List.any l (hasK (Sz.w s) (Sz.d s))) := by
  dsimp only
  intro hb
  have hl : l.length ≤ 9223372036854775807 := hb.1.1
  have e2 : (Enc.dflt : Row) = r0 := rfl
  simp only [sS, agD_row, agOk_row, agD_row', agOk_row', okIn, okIn', deI, deI', okR, okR', deR, deR', deRo, deRo', e2]
  have e3 : (Enc.dec fun j => Enc.enc s j) = s := rfl
  rw [e3]
  refine ⟨⟨0, ⟨by omega, rfl⟩, rfl⟩, fun z ⟨h1, h2⟩ => ⟨fun hz => ⟨by omega, (bsplit_iff (t := hasK s.w s.d (l.getD z r0))).2 ⟨fun hp => ?_, fun hp => ?_⟩⟩, fun hz => ?_⟩⟩
  · rw [getD_drop (d := r0) (by omega), idxF, hp] at h2
    rw [← idxF_any _ l 0, ← h2]; rfl
  · rw [getD_drop (d := r0) (by omega), idxF, hp] at h2
    exact ⟨by simp only [inK]; omega, z + 1, ⟨⟨by omega, h2⟩, by omega⟩, by omega⟩
  · rw [show z = l.length by omega, List.drop_length] at h2
    rw [← idxF_any _ l 0, ← h2]; rfl
def conS_t : List AV → Option (List Cond × AV)
  | [x, .fn (.func f) nf a nc c] =>
    match c 0 with
    | .xq 3 cells 0 => bif Nat.beq f 19 && Nat.beq nf 0 && Nat.beq nc 1 then some ([.b (slOk Row x), .b (isI64 (cells 0) && isI64 (cells 1) && isI64 (cells 2))], .b ((rowsOf x).any (hasK (AV.int (cells 1)) (AV.int (cells 2))))) else none
    | _ => none
  | _ => none
theorem conS_T : PureT Tryz.prog [] 18 conS_t := by
  intro xs ps r h hp
  unfold conS_t at h
  split at h
  · rename_i x f nf a nc c
    split at h
    · rename_i cells hc0
      cases hc : Nat.beq f 19 && Nat.beq nf 0 && Nat.beq nc 1 with
      | false => rw [hc] at h; cases h
      | true =>
        rw [hc] at h
        cases h
        simp only [Bool.and_eq_true] at hc
        obtain rfl := Nat.eq_of_beq_eq_true hc.1.1
        obtain rfl := Nat.eq_of_beq_eq_true hc.1.2
        obtain rfl := Nat.eq_of_beq_eq_true hc.2
        obtain ⟨q0, q1, -⟩ := allC hp
        have q1 : Enc.ok (α := Sz) cells = true := q1
        refine weaken (ys := [slE (rowsOf x), fnS (Enc.dec cells)]) ⟨slE_sound q0, ⟨rfl, rfl, rfl, trivial, ?_⟩, trivial⟩
          (pure_of_vc (T := Tco (rowsOf x) (Enc.dec cells)) (an := .auto) mixed (Tco_sound _ _) (Eq.mp (by kernel_rfl) (conS_vc (rowsOf x) (Enc.dec cells))))
        show avM (c 0) _
        rw [hc0]
        exact ⟨rfl, rfl, allB_of fun i hi => Enc.sound _ q1 i hi⟩
    · cases h
  · cases h
noncomputable def Tll (G : List (Nat × Obj)) : Tb := (((((tb0 G).plus 11 fine_t).plus 17 ls_t).plus 15 sallow_t).plus 18 conS_t).plus 13 (inst [] (.b true))
theorem Tll_sound {G : List (Nat × Obj)} (hG : TabIn G) : TbSound Tryz.prog (Tll G) :=
  TbSound.plus (TbSound.plus (TbSound.plus (TbSound.plus (TbSound.plus tb0_sound (fine_T hG)) (ls_T hG)) (sallow_T hG)) (PureT.mono conS_T)) (inst_T (awake_C hG))
theorem ask_at {l : List Row} {w d s q : Int} (h : askE l w d s q = 0) {x : Row} (hx : x ∈ l) : askE l x.w x.d s q = 0 := by
  obtain ⟨h1, _, _, h4, h5⟩ := ask_split.1 h
  obtain ⟨h2, h3⟩ := (ask_rows h).2 x hx
  exact ask_split.2 ⟨h1, h2, h3, h4, h5⟩
theorem ll_law {c : Qu} (h : fineB c = true) :
    ((lsE c.l c.s c.q c.sp = 0 ∧ alE c.l (lsV c.l c.s c.q c.sp).w (lsV c.l c.s c.q c.sp).d c.s c.q c.sp = 0 ∧ alB c.l (lsV c.l c.s c.q c.sp).w (lsV c.l c.s c.q c.sp).d c.s c.q c.sp = true ∧ (lsV c.l c.s c.q c.sp).k = 0 ∧
      c.l.any (hasK (lsV c.l c.s c.q c.sp).w (lsV c.l c.s c.q c.sp).d) = true) ∨ (lsE c.l c.s c.q c.sp = 25 ∧ lsV c.l c.s c.q c.sp = s0)) ∧
    okS (lsV c.l c.s c.q c.sp) = true ∧
    ∀ x ∈ c.l, alE c.l x.w x.d c.s c.q c.sp = 0 ∧ okS ⟨0, x.w, x.d⟩ = true ∧ (alB c.l x.w x.d c.s c.q c.sp = true → lsE c.l c.s c.q c.sp = 0 ∧ ¬ ordS ⟨0, x.w, x.d⟩ (lsV c.l c.s c.q c.sp) < 0) := by
  obtain ⟨hA, hr, h45, hl⟩ := fine_ask h
  obtain ⟨ht, hrow⟩ := ask_rows hA
  obtain ⟨_, _, _, hs5, hq5⟩ := ask_split.1 hA
  have hA1 : askE c.l 1 1 c.s c.q = 0 := ask_split.2 ⟨ht, ⟨by omega, by omega⟩, ⟨by omega, by omega⟩, hs5, hq5⟩
  have hL : lnE c.sp = 0 := by unfold lnE; rw [hr, h45]; rfl
  have al : ∀ x ∈ c.l, alE c.l x.w x.d c.s c.q c.sp = lfE c.l c.s c.q c.sp x ∧ alB c.l x.w x.d c.s c.q c.sp = lfB c.l c.s c.q c.sp x ∧ lfE c.l c.s c.q c.sp x = 0 := fun x hx => by
    have hx1 := ask_at hA hx
    obtain ⟨e1, _⟩ := al_ok hx1 hr h45 hl
    have e2 : alE c.l x.w x.d c.s c.q c.sp = lfE c.l c.s c.q c.sp x := by unfold alE lfE; rw [hx1, hL]; rfl
    have e3 : alB c.l x.w x.d c.s c.q c.sp = lfB c.l c.s c.q c.sp x := by unfold alB lfB; rw [hx1, hL]; rfl
    exact ⟨e2, e3, by rw [← e2]; exact e1⟩
  have get : ∀ i, i < c.l.length → c.l.getD i r0 ∈ c.l := fun i hi => by
    rw [List.getD_eq_getElem?_getD, List.getElem?_eq_getElem hi]
    exact List.getElem_mem hi
  have e := ls_end hA1 hL fun j hj => (al _ (get j hj)).2.2
  have ok : ∀ x ∈ c.l, okS ⟨0, x.w, x.d⟩ = true := fun x hx => by
    have := hrow x hx
    unfold okS
    rw [Bool.and_eq_true, between_iff, between_iff]
    simp only
    omega
  cases hn : Nat.beq (szs (lfB c.l c.s c.q c.sp) c.l).length 0 with
  | true =>
    rw [hn, cond_true] at e
    have ev : lsV c.l c.s c.q c.sp = s0 := lsV_bad (by rw [e]; decide)
    refine ⟨.inr ⟨e, ev⟩, by rw [ev]; decide, fun x hx => ⟨by rw [(al x hx).1]; exact (al x hx).2.2, ok x hx, fun hb => ?_⟩⟩
    rw [(al x hx).2.1] at hb
    have hm : (⟨0, x.w, x.d⟩ : Sz) ∈ szs (lfB c.l c.s c.q c.sp) c.l := szs_mem.2 ⟨x, hx, hb, rfl⟩
    rw [List.eq_nil_of_length_eq_zero (Nat.eq_of_beq_eq_true hn)] at hm
    cases hm
  | false =>
    rw [hn, cond_false] at e
    have ev : lsV c.l c.s c.q c.sp = minS (szs (lfB c.l c.s c.q c.sp) c.l) := by unfold lsV; rw [e]; rfl
    have hne : szs (lfB c.l c.s c.q c.sp) c.l ≠ [] := fun h0 => by rw [h0] at hn; cases hn
    obtain ⟨y, hy, hyb, hye⟩ := szs_mem.1 (minS_mem hne)
    have a := al y hy
    rw [ev, ← hye]
    refine ⟨.inl ⟨e, by rw [a.1]; exact a.2.2, by rw [a.2.1]; exact hyb, rfl, List.any_eq_true.2 ⟨y, hy, ?_⟩⟩, ok y hy, fun x hx => ⟨by rw [(al x hx).1]; exact (al x hx).2.2, ok x hx, fun hb => ⟨e, ?_⟩⟩⟩
    · unfold hasK
      simp only [beq_self_eq_true, Bool.and_true]
    · rw [(al x hx).2.1] at hb
      rw [hye]
      exact minS_le (szs_mem.2 ⟨x, hx, hb, rfl⟩)
def ll_an (c : Qu) : Ann :=
  .two .auto (.two .auto (.two .auto (.two .auto (.two (.two .auto (.one (.loop Nat (fun σ z => [(1, σ.tm 1), (3, σ.tm 3), (4, σ.tm 4), (73, σ.tm 73), (74, σ.tm 74), (75, .i z)]) (fun σ z => []) 0 (fun σ z => z ≤ c.l.length) (fun σ z => c.l.length - z) .auto))) .auto))))
theorem ll_vc (G : List (Nat × Obj)) (c : Qu) :
 let q1 := (AV.agg 6 fun (i : Nat) => Enc.enc c (0 + i)); let q3 := (AV.xl false 5 (List.length (Qu.l c)) fun i j => Enc.enc (List.getD (Qu.l c) i Enc.dflt) j); let q2 := (slOk Row q3); let q4 := (rowsOf q3); let q6 := (slD q3); let q8 := (lsV q4 (Qu.s c) (Qu.q c) (Qu.sp c)); let q7 := (Sz.w q8); let q9 := (Sz.d q8); let q5 := (alE q6 q7 q9 (Qu.s c) (Qu.q c) (Qu.sp c) != (0 : Int)); let q11 := (bif alE q6 q7 q9 (Qu.s c) (Qu.q c) (Qu.sp c) != (0 : Int) then true else !alB q6 q7 q9 (Qu.s c) (Qu.q c) (Qu.sp c)); let q10 := (!bsel false q11 || bsel false q11); let q13 := (bif bif alE q6 q7 q9 (Qu.s
 c) (Qu.q c) (Qu.sp c) != (0 : Int) then true else !alB q6 q7 q9 (Qu.s c) (Qu.q c) (Qu.sp c) then true else Sz.k q8 != (0 : Int)); let q12 := (!bsel false q13 || bsel false q13); let q14 := (AV.v (Value.int .i64 q7)); let q15 := (AV.v (Value.int .i64 q9)); let q17 := (IntKind.i64 = .i64 ∧ lsE q4 (Qu.s c) (Qu.q c) (Qu.sp c) = lsE q4 (Qu.s c) (Qu.q c) (Qu.sp c)); let q18 := (IntKind.i64 = .i64 ∧ (↑(List.length (Qu.l c)) : Int) = (↑(List.length (Qu.l c)) : Int)); let q19 := (25 = 25 ∧ 6 = 6 ∧ ((((avM q3 q3 ∧ IntKind.i64 = .i64 ∧ Qu.w c = Qu.w c) ∧ IntKind.i64 = .i64 ∧ Qu.d c = Qu.d c) ∧ IntKind.i64
 = .i64 ∧ Qu.s c = Qu.s c) ∧ IntKind.i64 = .i64 ∧ Qu.q c = Qu.q c) ∧ Qu.sp c = Qu.sp c); let q20 := ((IntKind.i64 = .i64 ∧ Sz.k q8 = Sz.k q8) ∧ IntKind.i64 = .i64 ∧ Sz.w q8 = Sz.w q8); let q23 := (Sz.w q8 * Sz.d q8); let q32 := (lsE q4 (Qu.s c) (Qu.q c) (Qu.sp c) != (0 : Int)); let q16 := ((∃ (z : Nat), (z ≤ List.length (Qu.l c) ∧ (nat_lit 0 = 0 ∧ 0 = 0) ∧ (nat_lit 1 = 1 ∧ 0 = 0) ∧ q17 ∧ avM q3 q3 ∧ q18 ∧ IntKind.i64 = .i64 ∧ (0 : Int) = (↑z : Int)) ∧ q19 ∧ 40 = 40 ∧ 3 = 3 ∧ q20 ∧ IntKind.i64 = .i64 ∧ Sz.d q8 = Sz.d q8) ∧ ∀ (z : Nat), let q22 := (List.getD (Qu.l c) (Int.toNat (↑z : Int))
 Enc.dflt); let q21 := (Row.w q22 * Row.d q22); let q26 := (Row.w q22); let q27 := (Row.d q22); let q25 := (alE q6 q26 q27 (Qu.s c) (Qu.q c) (Qu.sp c) != (0 : Int)); let q24 := (!bsel false q25 || bsel false q25); let q30 := (alB q6 q26 q27 (Qu.s c) (Qu.q c) (Qu.sp c)); let q29 := (bsel false q25 && bsel true q30); let q28 := (!q29 || bsel false q25 && bsel true q30); let q31 := (!(bsel false q25 && bsel true q30 && bsel false q32) || bsel false q25 && bsel true q30 && bsel false q32); let q35 := (bif lsE q4 (Qu.s c) (Qu.q c) (Qu.sp c) != (0 : Int) then true else ltB q21 q23); let q34 := (bsel
 false q25 && bsel true q30 && bsel false q35); let q33 := (!q34 || bsel false q25 && bsel true q30 && bsel false q35); let q37 := (Row.w q22 * Row.d q22 == Sz.w q8 * Sz.d q8); let q36 := (!(bsel false q25 && bsel true q30 && bsel false q35 && bsel true q37) || bsel false q25 && bsel true q30 && bsel false q35 && bsel true q37); z ≤ List.length (Qu.l c) → bsplit (ltB (↑z : Int) (↑(List.length (Qu.l c)) : Int)) (bsplit (DB.db ((0 : Int) ≤ (↑z : Int) ∧ (↑z : Int) < (↑(List.length (Qu.l c)) : Int))) (bsplit q2 (List.length (Qu.sp c) ≤ 4294967280 ∧ bsplit (DB.db (inK .i64 q21)) (bsplit (DB.db (inK
 .i64 q23)) (bsplit q24 (bsplit q28 (bsplit q28 (bsplit q31 (bsplit q31 (bsplit q28 (bsplit (!q29 || (!!lsE q4 (Qu.s c) (Qu.q c) (Qu.sp c) != (0 : Int) || bsel false q25 && bsel true q30 && bsel false q32)) (bsplit q28 (bsplit q33 (bsplit q33 (bsplit q33 (bsplit q36 (bsplit q36 (bsplit q36 (bsplit q36 (bsplit q33 (bsplit (!q34 || (!Row.w q22 * Row.d q22 == Sz.w q8 * Sz.d q8 || bsel false q25 && bsel true q30 && bsel false q35 && bsel true q37)) (bsplit q28 (bsplit (!q29 || ((!!bif lsE q4 (Qu.s c) (Qu.q c) (Qu.sp c) != (0 : Int) then true else ltB q21 q23) || bsel false q25 && bsel true q30 &&
 bsel false q35)) (bsplit q24 (bsplit (!bsel false q25 || (!alB q6 q26 q27 (Qu.s c) (Qu.q c) (Qu.sp c) || bsel false q25 && bsel true q30)) (bsplit (!!alE q6 q26 q27 (Qu.s c) (Qu.q c) (Qu.sp c) != (0 : Int) || bsel false q25) (bsplit (bif alE q6 q26 q27 (Qu.s c) (Qu.q c) (Qu.sp c) != (0 : Int) then true else bif alB q6 q26 q27 (Qu.s c) (Qu.q c) (Qu.sp c) then bif bif lsE q4 (Qu.s c) (Qu.q c) (Qu.sp c) != (0 : Int) then true else ltB q21 q23 then true else bif Row.w q22 * Row.d q22 == Sz.w q8 * Sz.d q8 then ltB q26 q7 else false else false) (false = true) (bsplit (DB.db (inK .i64 ((↑z : Int) + (1
 : Int)))) (∃ (z' : Nat), ((z' ≤ List.length (Qu.l c) ∧ List.length (Qu.l c) - z' < List.length (Qu.l c) - z) ∧ (nat_lit 0 = 0 ∧ 0 = 0) ∧ (nat_lit 1 = 1 ∧ 0 = 0) ∧ q17 ∧ avM q3 q3 ∧ q18 ∧ IntKind.i64 = .i64 ∧ (↑z : Int) + (1 : Int) = (↑z' : Int)) ∧ q19 ∧ 40 = 40 ∧ 3 = 3 ∧ q20 ∧ IntKind.i64 = .i64 ∧ Sz.d q8 = Sz.d q8) False)) False) False) False) False) False) False) False) False) False) False) False) False) False) False) False) False) False) False) False) False) False) False) False) False) False) False) (Wk [] [] ∧ true = true)); let q39 := (lsE q4 (Qu.s c) (Qu.q c) (Qu.sp c) != (25 : Int)); let
 q38 := (!bsel false q39 || bsel false q39); bndL [AV.agg 6 (Enc.enc c)] → bsplit (agOk Qu q1) (bsplit (!fineB (agD q1)) (Wk [] [] ∧ true = true) (bsplit q2 (List.length (Qu.sp c) ≤ 4294967280 ∧ bsplit (lsE q4 (Qu.s c) (Qu.q c) (Qu.sp c) == (0 : Int)) (bsplit q2 (List.length (Qu.sp c) ≤ 4294967280 ∧ bsplit (!bsel false q5 || bsel false q5) (bsplit (!!alE q6 q7 q9 (Qu.s c) (Qu.q c) (Qu.sp c) != (0 : Int) || bsel false q5) (bsplit q10 (bsplit q10 (bsplit ((!!bif alE q6 q7 q9 (Qu.s c) (Qu.q c) (Qu.sp c) != (0 : Int) then true else !alB q6 q7 q9 (Qu.s c) (Qu.q c) (Qu.sp c)) || bsel false q11)
 (bsplit q12 (bsplit q12 (bsplit q12 (bsplit (!bsel false q13 || slOk Row q3) (bsplit (!bsel false q13 || isI64 (AV.v (Value.int .i64 (Sz.k q8))) && isI64 q14 && isI64 q15) (bsplit q12 (bsplit ((!!bif bif alE q6 q7 q9 (Qu.s c) (Qu.q c) (Qu.sp c) != (0 : Int) then true else !alB q6 q7 q9 (Qu.s c) (Qu.q c) (Qu.sp c) then true else Sz.k q8 != (0 : Int)) || bsel false q13) (bsplit (bif bif bif alE q6 q7 q9 (Qu.s c) (Qu.q c) (Qu.sp c) != (0 : Int) then true else !alB q6 q7 q9 (Qu.s c) (Qu.q c) (Qu.sp c) then true else Sz.k q8 != (0 : Int) then true else !List.any q4 (hasK (AV.int q14) (AV.int q15)))
 (false = true) q16) False) False) False) False) False) False) False) False) False) False) False) False) False) (bsplit q38 (bsplit q38 (bsplit (!bsel false q39 || DB.db (Program.stoodInHeld Tryz.prog 40 = false)) (bsplit (!bsel false q39 || DB.db (Program.eqGuardType Tryz.prog 812 40 = false)) (bsplit (!!lsE q4 (Qu.s c) (Qu.q c) (Qu.sp c) != (25 : Int) || bsel false q39) (bsplit (bif lsE q4 (Qu.s c) (Qu.q c) (Qu.sp c) != (25 : Int) then true else !(Sz.k q8 == (0 : Int) && (Sz.w q8 == (0 : Int) && (Sz.d q8 == (0 : Int) && true)))) (false = true) q16) False) False) False) False) False)) False))
 False := by
  dsimp only
  intro hb
  have e2 : (Enc.dflt : Row) = r0 := rfl
  simp only [↓vc_db, ↓vc_gdb, row_one]
  simp only [sS, agD_row, agOk_row, agD_row', agOk_row', okIn, okIn', deI, deI', okR, okR', deR, deR', deRo, deRo', e2, agD_qu, agOk_qu]
  refine bsplit_iff.2 ⟨fun _ => Wk.refl _, fun hg => ?_⟩
  rw [Bool.not_eq_false'] at hg
  obtain ⟨hA, hr, h45, hl⟩ := fine_ask hg
  obtain ⟨hB, hV, hC⟩ := ll_law hg
  obtain ⟨_, _, v1, v2⟩ := okS_iff hV
  have hlen := (tabE_ok (ask_rows hA).1).1
  refine ⟨by omega, fun hE => ⟨by omega, bsp_t (Bool.or_true _) (bsplit_iff.2 ⟨fun k => ?_, fun _ => ⟨⟨0, by omega, rfl⟩, fun z hz => ⟨fun hlt => ?_, fun _ => Wk.refl _⟩⟩⟩)⟩,
    fun hE => ⟨fun _ => by kernel_rfl, fun _ => by kernel_rfl, bsplit_iff.2 ⟨fun k => ?_, fun _ => ⟨⟨0, by omega, rfl⟩, fun z hz => ⟨fun hlt => ?_, fun _ => Wk.refl _⟩⟩⟩⟩⟩
  · rcases hB with ⟨_, b1, b2, b3, b4⟩ | ⟨b1, _⟩
    · rw [b1, b2, b3, b4] at k
      exact absurd k (by decide)
    · rw [hE] at b1; cases b1
  rotate_left
  · rcases hB with ⟨b1, _⟩ | ⟨b1, b2⟩
    · exact absurd b1 hE
    · rw [b1, b2] at k
      exact absurd k (by decide)
  all_goals
    have hx : c.l.getD z r0 ∈ c.l := by
      rw [List.getD_eq_getElem?_getD, List.getElem?_eq_getElem (by omega)]
      exact List.getElem_mem (by omega)
    obtain ⟨c1, c2, c3⟩ := hC _ hx
    obtain ⟨_, _, x1, x2⟩ := okS_iff c2
    simp only at x1 x2
    refine ⟨⟨by omega, hlt⟩, by omega, ⟨by omega, by omega⟩, ⟨by omega, by omega⟩, ?_⟩
    rw [show (alE c.l (c.l.getD z r0).w (c.l.getD z r0).d c.s c.q c.sp != 0) = false by rw [c1]; rfl]
    have key : (alB c.l (c.l.getD z r0).w (c.l.getD z r0).d c.s c.q c.sp && (lsE c.l c.s c.q c.sp != 0 || ltB ((c.l.getD z r0).w * (c.l.getD z r0).d) ((lsV c.l c.s c.q c.sp).w * (lsV c.l c.s c.q c.sp).d) || (c.l.getD z r0).w * (c.l.getD z r0).d == (lsV c.l c.s c.q c.sp).w * (lsV c.l c.s c.q c.sp).d && ltB (c.l.getD z r0).w (lsV c.l c.s c.q c.sp).w)) = false := by
      cases hb : alB c.l (c.l.getD z r0).w (c.l.getD z r0).d c.s c.q c.sp with
      | false => rfl
      | true =>
        obtain ⟨g1, g2⟩ := c3 hb
        rw [ordS_lt] at g2
        simp only at g2
        rw [g1, Bool.true_and, Bool.or_eq_false_iff, Bool.or_eq_false_iff]
        refine ⟨⟨rfl, Bool.eq_false_iff.2 fun e => g2 (.inl ((ltB_iff _ _).1 e))⟩, Bool.eq_false_iff.2 fun e => ?_⟩
        rw [Bool.and_eq_true, beq_iff_eq, ltB_iff] at e
        exact g2 (.inr e)
    generalize alB c.l (c.l.getD z r0).w (c.l.getD z r0).d c.s c.q c.sp = y1 at key ⊢
    generalize (lsE c.l c.s c.q c.sp != 0) = y2 at key ⊢
    generalize ltB ((c.l.getD z r0).w * (c.l.getD z r0).d) ((lsV c.l c.s c.q c.sp).w * (lsV c.l c.s c.q c.sp).d) = y3 at key ⊢
    generalize ((c.l.getD z r0).w * (c.l.getD z r0).d == (lsV c.l c.s c.q c.sp).w * (lsV c.l c.s c.q c.sp).d) = y4 at key ⊢
    refine bsp_t (by cases y1 <;> cases y2 <;> rfl) (bsp_t (by cases y1 <;> cases y2 <;> cases y3 <;> cases y4 <;> rfl) (bsp_t (by cases y1 <;> cases y2 <;> cases y3 <;> rfl) (bsp_t (by cases y1 <;> rfl) (bsplit_iff.2 ⟨fun k => ?_, fun _ => ⟨⟨by omega, by omega⟩, z + 1, ⟨by omega, by omega⟩, by omega⟩⟩))))
    rw [Bool.false_or, key] at k
    exact k
theorem ll_C {G : List (Nat × Obj)} (hG : TabIn G) (c : Qu) : PureCall Tryz.prog G 5 [agE c] (.b true) :=
  pure_of_vc (T := Tll G) (an := ll_an c) mixed (Tll_sound hG) (Eq.mp (by kernel_rfl) (ll_vc G c))
end Go.Te
