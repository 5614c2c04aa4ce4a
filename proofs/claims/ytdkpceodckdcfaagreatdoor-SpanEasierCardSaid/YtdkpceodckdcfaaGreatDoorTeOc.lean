/- rational: digits, cut. -/
import Derived.Test.YtdkpceodckdcfaaGreatDoorTeL
import Derived.Test.YtdkpceodckdcfaaGreatDoorTeJ
import Derived.Test.YtdkpceodckdcfaaGreatDoorTeIi
set_option linter.unusedSimpArgs false
set_option linter.unusedVariables false
namespace Go.Te
open Go Go.Sx Go.Proofs Go.Ar
set_option maxRecDepth 100000
set_option maxHeartbeats 4000000
def dgN (s : Str) : Int := bif Nat.blt 1 (twD s).length && s.getD 0 0 == 48 then 0 else ((twD s).length : Int)
theorem ix_spec (c : UInt8) : ∀ s : Str, (0 ≤ Lib.indexByte s c → ∃ z : Nat, Lib.indexByte s c = z ∧ z < s.length ∧ (∀ i, i < z → s.getD i 0 ≠ c) ∧ s.getD z 0 = c) ∧ (Lib.indexByte s c < 0 → ∀ i, i < s.length → s.getD i 0 ≠ c)
  | [] => ⟨fun h => by simp [Lib.indexByte] at h, fun _ i hi => absurd hi (Nat.not_lt_zero _)⟩
  | x :: s => by
    obtain ⟨h1, h2⟩ := ix_spec c s
    unfold Lib.indexByte
    have ge := Lib.indexByte_ge s c
    by_cases hx : x = c
    · subst hx
      simp only [if_true, beq_self_eq_true, ↓reduceIte]
      exact ⟨fun _ => ⟨0, rfl, by simp, fun i hi => absurd hi (Nat.not_lt_zero _), rfl⟩, fun h => absurd h (by decide)⟩
    · have hx' : (x == c) = false := beq_eq_false_iff_ne.2 hx
      simp only [hx', hx, if_false, Bool.false_eq_true, ↓reduceIte]
      refine ⟨fun h => ?_, fun h => ?_⟩
      · split at h
        · exact absurd h (by decide)
        · rename_i hn
          have hne : Lib.indexByte s c ≠ -1 := by simpa using hn
          obtain ⟨z, e, h3, h4, h5⟩ := h1 (by omega)
          refine ⟨z + 1, ?_, by simp; omega, fun i hi => ?_, h5⟩
          · rw [if_neg hn, e]; omega
          · match i with
            | 0 => exact hx
            | i + 1 => exact h4 i (by omega)
      · split at h
        · rename_i hn
          intro i hi
          match i with
          | 0 => exact hx
          | i + 1 =>
            have heq : Lib.indexByte s c = -1 := by simpa using hn
            exact h2 (by omega) i (by simpa using hi)
        · rename_i hn
          have hne : Lib.indexByte s c ≠ -1 := by simpa using hn
          omega
theorem dgN_digs (s : Str) : (dgN s == 0 || ltB (dgN s) (s.length : Int)) = !digS s := by
  have hsp := congrArg List.length (tw_split s)
  rw [List.length_append, List.length_drop] at hsp
  cases hd : digS s with
  | true =>
    obtain ⟨d1, d2, d3⟩ := digS_iff.1 hd
    have ht := tw_digs hd
    have e : dgN s = (s.length : Int) := by
      unfold dgN
      rw [ht]
      cases hb : Nat.blt 1 s.length with
      | false => rfl
      | true =>
        rw [beq_eq_false_iff_ne.2 (d3 ((blt_iff _ _).1 hb))]
        rfl
    rw [e, beq_eq_false_iff_ne.2 (by omega), show ltB (s.length : Int) (s.length : Int) = false from Bool.eq_false_iff.2 fun e => by have := (ltB_iff _ _).1 e; omega]
    rfl
  | false =>
    show _ = true
    unfold dgN
    cases hb : Nat.blt 1 (twD s).length && s.getD 0 0 == 48 with
    | true => rfl
    | false =>
      simp only [cond_false]
      by_cases h0 : (twD s).length = 0
      · rw [h0]; rfl
      by_cases hl : (twD s).length < s.length
      · rw [(ltB_iff _ _).2 (by omega), Bool.or_true]
      refine absurd hd ?_
      have ht : twD s = s := by
        have := tw_split s
        rw [List.drop_of_length_le (by omega), List.append_nil] at this
        exact this
      rw [ht] at hb h0
      have : digS s = true := digS_iff.2 ⟨by omega, fun c hc => tw_all s c (by rw [ht]; exact hc), fun h1 e => by
        rw [(blt_iff _ _).2 h1, e] at hb
        cases hb⟩
      rw [this]
      decide
def rdig_an (s : Str) : Ann :=
  .two .auto (.two .auto (.two (.one (.loop Nat (fun σ z => [(0, σ.tm 0), (3, .i (z : Int))]) (fun σ z => []) 0 (fun σ z => z ≤ s.length ∧ ∀ i, i < z → isDg (s.getD i 0) = true) (fun σ z => s.length - z) .auto)) .auto))
def rdig_t : List AV → Option (List Cond × AV)
  | [.str s] => some ([.p (s.length ≤ 4294967280)], .i (dgN s))
  | _ => none
theorem rdig_vc (s : List UInt8) (hl : s.length ≤ 4294967280) :
 bndL [AV.str s] → (∃ (z : Nat), ((z ≤ List.length s ∧ ∀ (i : Nat), i < z → isDg (List.getD s i (0 : UInt8)) = true) ∧ s = s ∧ IntKind.i64 = .i64 ∧ (0 : Int) = (↑z : Int)) ∧ True) ∧ ∀ (z : Nat), let q2 := (ltB (↑z : Int) (↑(List.length s) : Int)); let q1 := (!bsel true q2 || bsel true q2); let q3 := ((0 : Int) ≤ (↑z : Int) ∧ (↑z : Int) < (↑(List.length s) : Int)); let q6 := (↑(UInt8.toNat (List.getD s (Int.toNat (↑z : Int)) (0 : UInt8))) : Int); let q5 := (bif ltB (↑z : Int) (↑(List.length s) : Int) then leB (48 : Int) q6 else false); let q4 := (!bsel true q5 || bsel true q5); let q7 := (!bsel
 true (ltB (1 : Int) (↑z : Int)) || bsel true (ltB (1 : Int) (↑z : Int))); (z ≤ List.length s ∧ ∀ (i : Nat), i < z → isDg (List.getD s i (0 : UInt8)) = true) → bsplit q1 (bsplit q1 (bsplit (!bsel true q2 || DB.db q3) (bsplit q1 (bsplit (!ltB (↑z : Int) (↑(List.length s) : Int) || bsel true q2) (bsplit q4 (bsplit q4 (bsplit (!bsel true q5 || DB.db q3) (bsplit q4 (bsplit ((!bif ltB (↑z : Int) (↑(List.length s) : Int) then leB (48 : Int) q6 else false) || bsel true q5) (bsplit (bif bif ltB (↑z : Int) (↑(List.length s) : Int) then leB (48 : Int) q6 else false then leB q6 (57 : Int) else false)
 (bsplit (DB.db (inK .i64 ((↑z : Int) + (1 : Int)))) (∃ (z' : Nat), (((z' ≤ List.length s ∧ ∀ (i : Nat), i < z' → isDg (List.getD s i (0 : UInt8)) = true) ∧ List.length s - z' < List.length s - z) ∧ s = s ∧ IntKind.i64 = .i64 ∧ (↑z : Int) + (1 : Int) = (↑z' : Int)) ∧ True) False) (bsplit q7 (bsplit (!bsel true (ltB (1 : Int) (↑z : Int)) || DB.db ((0 : Int) ≤ (0 : Int) ∧ (0 : Int) < (↑(List.length s) : Int))) (bsplit q7 (bsplit (!ltB (1 : Int) (↑z : Int) || bsel true (ltB (1 : Int) (↑z : Int))) (bsplit (bif ltB (1 : Int) (↑z : Int) then (↑(UInt8.toNat (List.getD s 0 (0 : UInt8))) : Int) == (48 :
 Int) else false) (IntKind.i64 = .i64 ∧ (0 : Int) = dgN s) (IntKind.i64 = .i64 ∧ (↑z : Int) = dgN s)) False) False) False) False)) False) False) False) False) False) False) False) False) False) False := by
  dsimp only
  intro hb
  simp only [sS, dS, ltB_nat]
  have dg2 : ∀ c : UInt8, (leB 48 (c.toNat : Int) && leB (c.toNat : Int) 57) = isDg c := fun c => by rw [Bool.eq_iff_iff, Bool.and_eq_true, leB_iff, leB_iff, isDg_iff]; omega
  simp only [Bool.and_assoc, dg2]
  refine ⟨⟨0, ⟨Nat.zero_le _, fun i hi => absurd hi (Nat.not_lt_zero _)⟩, rfl⟩, fun z ⟨z1, z3⟩ => ⟨fun h => ?_, fun h => ?_, bsplit_iff.2 ⟨fun c => ?_, fun c => ⟨fun h => ?_, ?_⟩⟩⟩⟩
  · have := (ltB_iff _ _).1 h; exact ⟨by omega, by omega⟩
  · rw [Bool.and_eq_true] at h; have := (ltB_iff _ _).1 h.1; exact ⟨by omega, by omega⟩
  · rw [Bool.and_eq_true] at c
    have c1 := (ltB_iff _ _).1 c.1
    refine ⟨⟨by omega, by omega⟩, z + 1, ⟨⟨by omega, fun i hi => ?_⟩, by omega⟩, by omega⟩
    by_cases e : i = z
    · rw [e]; exact c.2
    · exact z3 i (by omega)
  · have := (ltB_iff _ _).1 h; exact ⟨by omega, by omega⟩
  · have h3 : z = s.length ∨ isDg (s.getD z 0) = false := by
      by_cases q1 : z = s.length
      · exact .inl q1
      · rw [(ltB_iff _ _).2 (show (z : Int) < (s.length : Int) by omega), Bool.true_and] at c
        exact .inr c
    have ht := tw_take z1 z3 h3
    have hl : (twD s).length = z := by rw [ht, List.length_take]; omega
    have e1 : (ltB 1 (z : Int) && ((s.getD 0 0).toNat : Int) == 48) = (Nat.blt 1 z && s.getD 0 0 == 48) := by
      rw [show (((s.getD 0 0).toNat : Int) == 48) = (s.getD 0 0 == 48) from byte_eq (s.getD 0 0) 48 (by decide), show ltB 1 (z : Int) = Nat.blt 1 z from by rw [Bool.eq_iff_iff, ltB_iff, blt_iff]; omega]
    rw [e1]
    unfold dgN
    rw [hl]
    refine bsplit_iff.2 ⟨fun k => ?_, fun k => ?_⟩
    · rw [k]; rfl
    · rw [k]; rfl
theorem rdig_C (s : List UInt8) (hl : s.length ≤ 4294967280) : PureCall Tryz.prog [] 234 [.str s] (.i (dgN s)) :=
  pure_of_vc (T := T0) (an := rdig_an s) mixed tb0_sound (Eq.mp (by kernel_rfl) (rdig_vc s hl))
theorem rdig_T : PureT Tryz.prog [] 234 rdig_t := by
  intro xs ps r h hp
  unfold rdig_t at h
  split at h
  · skip
    rename_i s
    cases h
    obtain ⟨q0, -⟩ := allC hp
    exact weaken (ys := [.str s]) ⟨avM_refl _, trivial⟩ (rdig_C s q0)
  · cases h
noncomputable def Tcut : Tb := (T0.plus 123 idx1_t).body Tryz.prog [(256, .auto)]
theorem Tcut_sound : TbSound Tryz.prog Tcut := TbSound.body mixed (TbSound.plus tb0_sound idx1_T) _
theorem scut_vc (s : Str) (hl : s.length ≤ 4294967280) :
 bndL [AV.str s, AV.str [(47 : UInt8)]] → bsplit (leB (0 : Int) (Lib.indexByte s (47 : UInt8))) (bsplit (DB.db ((0 : Int) ≤ Lib.indexByte s (47 : UInt8) ∧ Lib.indexByte s (47 : UInt8) ≤ (↑(List.length s) : Int))) (bsplit (DB.db (inK .i64 (Lib.indexByte s (47 : UInt8) + (↑1 : Int)))) (bsplit (DB.db ((0 : Int) ≤ Lib.indexByte s (47 : UInt8) + (↑1 : Int) ∧ Lib.indexByte s (47 : UInt8) + (↑1 : Int) ≤ (↑(List.length s) : Int))) (3 = List.length [AV.junk, AV.junk, AV.junk] ∧ ((True ∧ List.take (Int.toNat (Lib.indexByte s (47 : UInt8))) s = cutN s) ∧ List.drop (Int.toNat (Lib.indexByte s (47 : UInt8) +
 (↑1 : Int))) s = cutD s) ∧ true = slashB s) False) False) False) (3 = List.length [AV.junk, AV.junk, AV.junk] ∧ ((True ∧ s = cutN s) ∧ Array.toList (ByteArray.data (ByteArray.mk #[])) = cutD s) ∧ false = slashB s) := by
  intro hb
  simp only [sS, dS, ltB_nat]
  obtain ⟨h1, h2⟩ := ix_spec 47 s
  refine ⟨fun h => ?_, fun h => ?_⟩
  · obtain ⟨z, e, z1, z2, z3⟩ := h1 h
    obtain ⟨c1, c2, c3⟩ := cut_at z1 z2 z3
    rw [e, c1, c2, c3, show ((z : Int)).toNat = z from rfl, show ((z : Int) + 1).toNat = z + 1 by omega]
    exact ⟨⟨by omega, by omega⟩, ⟨by omega, by omega⟩, ⟨by omega, by omega⟩, rfl, ⟨rfl, rfl⟩, rfl⟩
  · obtain ⟨c1, c2, c3⟩ := cut_no (h2 h)
    rw [c1, c2, c3]
    exact ⟨rfl, ⟨rfl, rfl⟩, rfl⟩
def slash_t : List AV → Option (List Cond × AV)
  | [.str s, .str p] => some ([.b (p == [47]), .p (s.length ≤ 4294967280)], .tup 3 (listFn [.str (cutN s), .str (cutD s), .b (slashB s)]))
  | _ => none
theorem scut_T : PureT Tryz.prog [] 233 slash_t := by
  intro xs ps r h hp
  unfold slash_t at h
  split at h
  · rename_i s p
    cases h
    have q : (p == [47]) = true := hp _ List.mem_cons_self
    have q1 : s.length ≤ 4294967280 := hp _ (List.mem_cons_of_mem _ List.mem_cons_self)
    obtain rfl := eq_of_beq q
    exact pure_of_vc mixed Tcut_sound (Eq.mp (by kernel_rfl) (scut_vc s q1) : vcFn Tryz.prog Tcut 233 (.auto) [.str s, .str [47]] (.tup 3 (listFn [.str (cutN s), .str (cutD s), .b (slashB s)])))
  · cases h
theorem int_form (t : Str) : intB t = (digS (ownS t) && !(minB t && ownS t == [48])) := by
  match t with
  | [] => rfl
  | c :: r =>
    by_cases hc : c = 45
    · subst hc
      rfl
    · have hm : minB (c :: r) = false := beq_eq_false_iff_ne.2 hc
      obtain ⟨h1, _, _⟩ := int_plain (a := c :: r) fun h => hc h.2
      rw [h1, hm, ← ownS_f hm, Bool.false_and, Bool.not_false, Bool.and_true]
noncomputable def Trc : Tb := ((T0.plus 233 slash_t).plus 210 (dash_t fun s => .tup 2 (listFn [.str (ownS s), .b (minB s)]))).plus 234 rdig_t
theorem Trc_sound : TbSound Tryz.prog Trc := TbSound.plus (TbSound.plus (TbSound.plus tb0_sound scut_T) cutP_T) rdig_T
def rcut_t : List AV → Option (List Cond × AV)
  | [.str a] => some ([.p (a.length ≤ 4294967280)], .tup 2 (listFn [.agg 2 (listFn [.str (bif formB a then cutN a else []), .str (bif formB a then (bif slashB a then cutD a else [49]) else [])]), .b (formB a)]))
  | _ => none
theorem rcut_vc (a : List UInt8) (hl : a.length ≤ 4294967280) :
 let q1 := (!bsel false (dgN (ownS (cutN a)) == (0 : Int)) || bsel false (dgN (ownS (cutN a)) == (0 : Int))); let q3 := (bif dgN (ownS (cutN a)) == (0 : Int) then true else ltB (dgN (ownS (cutN a))) (↑(List.length (ownS (cutN a))) : Int)); let q2 := (!bsel false q3 || bsel false q3); let q4 := (ByteArray.data (ByteArray.mk #[(48 : UInt8)])); let q5 := (2 = List.length [AV.junk, AV.junk] ∧ (True ∧ 2 = 2 ∧ (Array.toList (ByteArray.data (ByteArray.mk #[])) = bif formB a then cutN a else []) ∧ Array.toList (ByteArray.data (ByteArray.mk #[])) = bif formB a then bif slashB a then cutD a else [(49 :
 UInt8)] else []) ∧ false = formB a); let q6 := (cutN a = bif formB a then cutN a else []); let q7 := (ByteArray.data (ByteArray.mk #[(49 : UInt8)])); let q8 := (!bsel false (dgN (cutD a) == (0 : Int)) || bsel false (dgN (cutD a) == (0 : Int))); let q9 := (bif dgN (cutD a) == (0 : Int) then true else ltB (dgN (cutD a)) (↑(List.length (cutD a)) : Int)); let q10 := (bif bif dgN (cutD a) == (0 : Int) then true else ltB (dgN (cutD a)) (↑(List.length (cutD a)) : Int) then true else cutD a == Array.toList q4); bndL [AV.str a] → List.length a ≤ 4294967280 ∧ List.length (ownS (cutN a)) ≤ 4294967280 ∧
 bsplit q1 (bsplit q1 (bsplit q1 (bsplit (!!dgN (ownS (cutN a)) == (0 : Int) || bsel false (dgN (ownS (cutN a)) == (0 : Int))) (bsplit q2 (bsplit (!(bsel false q3 && bsel true (minB (cutN a))) || bsel false q3 && bsel true (minB (cutN a))) (bsplit q2 (bsplit (!bsel false q3 || (!minB (cutN a) || bsel false q3 && bsel true (minB (cutN a)))) (bsplit ((!!bif dgN (ownS (cutN a)) == (0 : Int) then true else ltB (dgN (ownS (cutN a))) (↑(List.length (ownS (cutN a))) : Int)) || bsel false q3) (bsplit (bif bif dgN (ownS (cutN a)) == (0 : Int) then true else ltB (dgN (ownS (cutN a))) (↑(List.length (ownS
 (cutN a))) : Int) then true else bif minB (cutN a) then ownS (cutN a) == Array.toList q4 else false) q5 (bsplit (!slashB a) (2 = List.length [AV.junk, AV.junk] ∧ (True ∧ 2 = 2 ∧ q6 ∧ Array.toList q7 = bif formB a then bif slashB a then cutD a else [(49 : UInt8)] else []) ∧ true = formB a) (List.length (cutD a) ≤ 4294967280 ∧ bsplit q8 (bsplit q8 (bsplit q8 (bsplit (!!dgN (cutD a) == (0 : Int) || bsel false (dgN (cutD a) == (0 : Int))) (bsplit (!bsel false q9 || bsel false q9) (bsplit ((!!bif dgN (cutD a) == (0 : Int) then true else ltB (dgN (cutD a)) (↑(List.length (cutD a)) : Int)) || bsel
 false q9) (bsplit (!bsel false q10 || bsel false q10) (bsplit ((!!bif bif dgN (cutD a) == (0 : Int) then true else ltB (dgN (cutD a)) (↑(List.length (cutD a)) : Int) then true else cutD a == Array.toList q4) || bsel false q10) (bsplit (bif bif bif dgN (cutD a) == (0 : Int) then true else ltB (dgN (cutD a)) (↑(List.length (cutD a)) : Int) then true else cutD a == Array.toList q4 then true else cutD a == Array.toList q7) q5 (2 = List.length [AV.junk, AV.junk] ∧ (True ∧ 2 = 2 ∧ q6 ∧ cutD a = bif formB a then bif slashB a then cutD a else [(49 : UInt8)] else []) ∧ true = formB a)) False) False)
 False) False) False) False) False) False))) False) False) False) False) False) False) False) False) False := by
  dsimp only
  intro hb
  simp only [sS, dS, ltB_nat, dgN_digs]
  have hF : formB a = (intB (cutN a) && (!slashB a || digS (cutD a) && !(cutD a == [48]) && !(cutD a == [49]))) := rfl
  rw [int_form] at hF
  have l1 := cutN_len a
  have l2 := cutD_len a
  have l3 := ownS_len (cutN a)
  generalize digS (ownS (cutN a)) = p1 at *
  generalize (minB (cutN a)) = p2 at *
  generalize (ownS (cutN a) == [48]) = p3 at *
  refine ⟨hl, by omega, ?_⟩
  refine bsp_t (by cases p1 <;> cases p2 <;> rfl) ?_
  refine bsplit_iff.2 ⟨fun c => ?_, fun c => bsplit_iff.2 ⟨fun c2 => ?_, fun c2 => ⟨by omega, bsplit_iff.2 ⟨fun c3 => ?_, fun c3 => ?_⟩⟩⟩⟩
  · have e : formB a = false := by
      rw [hF]
      revert c
      cases p1 <;> cases p2 <;> cases p3 <;> simp
    rw [e]
    exact ⟨rfl, ⟨rfl, rfl⟩, rfl⟩
  · have hs : slashB a = false := by simpa using c2
    have e : formB a = true := by
      rw [hF, hs]
      revert c
      cases p1 <;> cases p2 <;> cases p3 <;> simp
    rw [e, hs]
    exact ⟨rfl, ⟨rfl, rfl⟩, rfl⟩
  · have hs : slashB a = true := by simpa using c2
    have e : formB a = false := by
      rw [hF, hs]
      revert c3
      cases digS (cutD a) <;> cases cutD a == [48] <;> cases cutD a == [49] <;> simp
    rw [e]
    exact ⟨rfl, ⟨rfl, rfl⟩, rfl⟩
  · have hs : slashB a = true := by simpa using c2
    have e : formB a = true := by
      rw [hF, hs]
      revert c c3
      cases digS (cutD a) <;> cases cutD a == [48] <;> cases cutD a == [49] <;> cases p1 <;> cases p2 <;> cases p3 <;> simp
    rw [e, hs]
    exact ⟨rfl, ⟨rfl, rfl⟩, rfl⟩
theorem rcut_C (a : List UInt8) (hl : a.length ≤ 4294967280) : PureCall Tryz.prog [] 196 [.str a] (.tup 2 (listFn [.agg 2 (listFn [.str (bif formB a then cutN a else []), .str (bif formB a then (bif slashB a then cutD a else [49]) else [])]), .b (formB a)])) :=
  pure_of_vc (T := Trc) (an := .auto) mixed Trc_sound (Eq.mp (by kernel_rfl) (rcut_vc a hl))
theorem rcut_T : PureT Tryz.prog [] 196 rcut_t := by
  intro xs ps r h hp
  unfold rcut_t at h
  split at h
  · skip
    rename_i a
    cases h
    obtain ⟨q0, -⟩ := allC hp
    exact weaken (ys := [.str a]) ⟨avM_refl _, trivial⟩ (rcut_C a q0)
  · cases h
end Go.Te

namespace Go.Te
open Go Go.Sx Go.Proofs Go.Ar
set_option maxRecDepth 100000
set_option maxHeartbeats 4000000
def denS (a : Str) : Str := bif slashB a then cutD a else [49]
theorem intE_itoa' (n : Int) : intE (Lib.itoa n) = resE n := by
  obtain ⟨h1, h2⟩ := itoa_intB n
  have h3 := lenD_eq h1
  rw [h2] at h3
  unfold intE resE
  rw [h1, h3]
  rfl
theorem vok {a : Str} (h : ratE a = 0) : intE (cutN a) = 0 ∧ intE (denS a) = 0 ∧ valI (cutN a) = ratN a ∧ valI (denS a) = (ratD a : Int) := by
  obtain ⟨h1, h2, h3, _⟩ := ratE_zero.1 h
  have hi : intB (cutN a) = true := by
    unfold formB at h1
    rw [Bool.and_eq_true] at h1
    exact h1.1
  refine ⟨intE_zero.2 ⟨hi, h2⟩, ?_, rfl, ?_⟩
  all_goals
    unfold denS
    cases hs : slashB a with
    | false =>
      first
        | (show intE [49] = 0; exact intE_zero.2 (by decide))
        | (unfold ratD; rw [hs]; show valI [49] = ((1 : Nat) : Int); decide)
    | true =>
      unfold formB at h1
      rw [hs] at h1
      have hd : digS (cutD a) = true := by
        revert h1
        cases digS (cutD a) <;> simp
      obtain ⟨i1, i2⟩ := intB_nat hd
      first
        | exact intE_zero.2 ⟨i1, Nat.le_trans (lenD_le _).1 h3⟩
        | (unfold ratD; rw [hs]; exact i2)
theorem one_iff (g : Nat) : (Lib.itoa (g : Int) == [49]) = Nat.beq g 1 := by
  rw [Go.Ar.itoa_nat, Bool.eq_iff_iff, beq_iff_eq, Nat.beq_eq]
  constructor
  · intro h
    have := congrArg decV h
    rw [decV_decDigits] at this
    exact this
  · intro h
    rw [h, decDigits_small (by decide)]; rfl
theorem opm {a b : Str} (ha : ratE a = 0) (hb : ratE b = 0) : opE (fun x1 x2 => x1 * x2) (cutN a) (denS b) = resE (ratN a * (ratD b : Int)) ∧ opS (fun x1 x2 => x1 * x2) (cutN a) (denS b) = resS (ratN a * (ratD b : Int)) := by
  obtain ⟨a1, a2, a3, a4⟩ := vok ha
  obtain ⟨b1, b2, b3, b4⟩ := vok hb
  have hE : bothE (cutN a) (denS b) = 0 := by unfold bothE; rw [a1, b2]; rfl
  obtain ⟨e1, e2⟩ := op_eq (f := fun x1 x2 => x1 * x2) hE
  rw [a3, b4] at e1 e2
  exact ⟨e2, e1⟩
theorem cmp_res {n m : Int} (hn : resE n = 0) (hm : resE m = 0) : cmpV (resS n) (resS m) = cmpI n m ∧ bothE (resS n) (resS m) = 0 ∧ (resS n).length ≤ 4294967280 ∧ (resS m).length ≤ 4294967280 := by
  have e : ∀ k, resE k = 0 → resS k = Lib.itoa k := fun k h => by unfold resS; rw [h]; rfl
  have l : ∀ k, resE k = 0 → (Lib.itoa k).length ≤ 4294967280 := fun k h => by
    rw [itoa_len]
    have : ¬ 300 < nDg k := fun e => by unfold resE at h; rw [(blt_iff _ _).2 e] at h; cases h
    split <;> omega
  rw [e n hn, e m hm]
  have hE : bothE (Lib.itoa n) (Lib.itoa m) = 0 := by
    unfold bothE
    rw [intE_itoa', hn, intE_itoa', hm]
    rfl
  refine ⟨?_, hE, l n hn, l m hm⟩
  unfold cmpV
  rw [hE, (itoa_intB n).2, (itoa_intB m).2]
  rfl
theorem nat_rat {a : Str} (h : natB a = true) : ratE a = 0 ∧ (ratN a).natAbs ≤ 99999999 ∧ ratD a ≤ 99999999 := by
  obtain ⟨h1, h2, h3, h4⟩ := natB_iff.1 h
  obtain ⟨g1, g2, g3⟩ := form_iff.1 h1
  have hr : ratE a = 0 := by
    unfold natB at h
    rw [Bool.and_eq_true, Bool.and_eq_true, beq_iff_eq] at h
    exact h.1.1
  have b := decV_bound g1 (k := 8) h2
  rw [show 10 ^ 8 = 100000000 from by decide] at b
  refine ⟨hr, by rw [ratN_abs]; omega, ?_⟩
  rw [(own_cut (a := a)).2]
  cases hs : slashB (ownS a) with
  | false => show 1 ≤ 99999999; decide
  | true =>
    have b := decV_bound (g3 hs).1 (k := 8) h3
    rw [show 10 ^ 8 = 100000000 from by decide] at b
    simp only [cond_true]
    omega
noncomputable def Trr (G : List (Nat × Obj)) : Tb := ((((tb0 G).plus 196 rcut_t).plus 130 rnat_t).plus 44 (dash_t fun s => .str (ownS s))).plus 191 iGcd_t
theorem Trr_sound {G : List (Nat × Obj)} (hG : TabIn G) : TbSound Tryz.prog (Trr G) := TbSound.plus (TbSound.plus (TbSound.plus (TbSound.plus tb0_sound (PureT.mono rcut_T)) (PureT.mono rnat_T)) (PureT.mono trimP_T)) (iGcd_T hG)
def rread_t : List AV → Option (List Cond × AV)
  | [.str a] => some ([.p (a.length ≤ 4294967280)], .tup 2 (listFn [.agg 2 (listFn [.str (bif ratE a == 0 then cutN a else []), .str (bif ratE a == 0 then denS a else [])]), .i (ratE a)]))
  | _ => none
theorem rread_vc (G : List (Nat × Obj)) (a : List UInt8) (hl : a.length ≤ 4294967280) :
 let q2 := (True ∧ 2 = 2 ∧ (Array.toList (ByteArray.data (ByteArray.mk #[])) = bif ratE a == (0 : Int) then cutN a else []) ∧ Array.toList (ByteArray.data (ByteArray.mk #[])) = bif ratE a == (0 : Int) then denS a else []); let q1 := (2 = List.length [AV.junk, AV.junk] ∧ q2 ∧ IntKind.i64 = .i64 ∧ (11 : Int) = ratE a); let q4 := (bif formB a then bif slashB a then cutD a else [(49 : UInt8)] else []); let q3 := (2 = List.length [AV.junk, AV.junk] ∧ (True ∧ 2 = 2 ∧ ((bif formB a then cutN a else []) = bif ratE a == (0 : Int) then cutN a else []) ∧ q4 = bif ratE a == (0 : Int) then denS a else []) ∧
 IntKind.i64 = .i64 ∧ (0 : Int) = ratE a); let q7 := (↑(List.length (ownS (bif formB a then cutN a else []))) : Int); let q6 := (ltB (300 : Int) q7); let q5 := (!bsel false q6 || bsel false q6); let q8 := (ByteArray.data (ByteArray.mk #[(49 : UInt8)])); let q9 := (bothE (bif formB a then cutN a else []) q4 != (0 : Int)); bndL [AV.str a] → List.length a ≤ 4294967280 ∧ bsplit (!formB a) q1 (List.length a ≤ 4294967280 ∧ bsplit (natB a) q3 (bsplit q5 (bsplit q5 (bsplit q5 (bsplit (!!ltB (300 : Int) q7 || bsel false q6) (bsplit (bif ltB (300 : Int) q7 then true else ltB (300 : Int) (↑(List.length q4)
 : Int)) (2 = List.length [AV.junk, AV.junk] ∧ q2 ∧ IntKind.i64 = .i64 ∧ (4 : Int) = ratE a) (bsplit (q4 == Array.toList q8) q3 (List.length (bif formB a then cutN a else []) ≤ 4294967280 ∧ List.length q4 ≤ 4294967280 ∧ bsplit (!bsel false q9 || bsel false q9) (bsplit (!!bothE (bif formB a then cutN a else []) q4 != (0 : Int) || bsel false q9) (bsplit (bif bothE (bif formB a then cutN a else []) q4 != (0 : Int) then true else !(bif bothE (bif formB a then cutN a else []) q4 != (0 : Int) then [] else Lib.itoa (↑(gcdN (bif formB a then cutN a else []) q4) : Int)) == Array.toList q8) q1 q3) False)
 False))) False) False) False) False)) := by
  dsimp only
  intro hb
  simp only [sS, dS, ltB_nat]
  have hFO := formB_own a
  have hden : (bif slashB a then cutD a else [49]) = denS a := rfl
  obtain ⟨o1, o2, o3, o4, o5, o6, o7⟩ := own_parts a
  refine ⟨hl, bsplit_iff.2 ⟨fun c => ?_, fun c => ?_⟩⟩
  · have c : formB a = false := by simpa using c
    rw [c] at hFO
    rw [ratE_bad hFO.symm]
    exact ⟨rfl, ⟨rfl, rfl⟩, rfl⟩
  have c : formB a = true := by simpa using c
  have hFO' : formO a = true := hFO.symm.trans c
  simp only [c, cond_true, hden]
  have fin : ratE a = 0 → 2 = [AV.junk, AV.junk].length ∧ ((cutN a = bif ratE a == 0 then cutN a else []) ∧ denS a = bif ratE a == 0 then denS a else []) ∧ 0 = ratE a := fun h => by rw [h]; exact ⟨rfl, ⟨rfl, rfl⟩, rfl⟩
  have bad : ∀ e : Int, e ≠ 0 → ratE a = e → 2 = [AV.junk, AV.junk].length ∧ (([] = bif ratE a == 0 then cutN a else []) ∧ [] = bif ratE a == 0 then denS a else []) ∧ e = ratE a := fun e h0 h => by
    rw [h, beq_eq_false_iff_ne.2 h0]; exact ⟨rfl, ⟨rfl, rfl⟩, rfl⟩
  have hlen : (ownS (cutN a)).length = (cutN (ownS a)).length := by rw [← (int_own (cutN a)).2, o5]
  have hcd := cutN_len a
  have hdd := cutD_len a
  refine ⟨hl, bsplit_iff.2 ⟨fun k => fin (nat_rat k).1, fun k => bsplit_iff.2 ⟨fun k2 => bad 4 (by decide) (ratE_long hFO' ?_), fun k2 => bsplit_iff.2 ⟨fun k3 => ?_, fun k3 => ?_⟩⟩⟩⟩
  · rw [Bool.or_eq_true, ltB_iff, ltB_iff, hlen] at k2
    rcases k2 with k2 | k2
    · exact .inl (by omega)
    · refine .inr ?_
      rw [← o2]
      unfold denS at k2
      cases hs : slashB a with
      | true => rw [hs, cond_true] at k2; omega
      | false => rw [hs, cond_false] at k2; exact absurd k2 (by decide)
  · have hs : slashB a = false := by
      cases hs : slashB a with
      | false => rfl
      | true =>
        unfold denS at k3
        rw [hs, cond_true] at k3
        have := (form_iff.1 hFO').2.2 (by rw [← o3]; exact hs)
        rw [← o2] at this
        exact absurd (eq_of_beq k3) this.2.2
    rw [Bool.or_eq_false_iff, Bool.eq_false_iff, Ne, ltB_iff, hlen] at k2
    exact fin (ratE_int hFO' (by omega) (by rw [← o3]; exact hs))
  · have hs : slashB a = true := by
      cases hs : slashB a with
      | true => rfl
      | false => unfold denS at k3; rw [hs] at k3; cases k3
    have hdS : denS a = cutD a := by unfold denS; rw [hs]; rfl
    rw [hdS] at k2 bad fin ⊢
    rw [Bool.or_eq_false_iff, Bool.eq_false_iff, Bool.eq_false_iff, Ne, Ne, ltB_iff, ltB_iff, hlen] at k2
    have e2 := ratE_gcd hFO' ⟨by omega, by rw [← o2]; omega⟩ (by rw [← o3]; exact hs)
    have g := (form_iff.1 hFO').2.2 (by rw [← o3]; exact hs)
    rw [← o2] at g e2
    obtain ⟨i1, i2⟩ := intB_nat g.1
    have hi : intB (cutN a) = true := by
      have := c
      unfold formB at this
      rw [Bool.and_eq_true] at this
      exact this.1
    have hE : bothE (cutN a) (cutD a) = 0 := by
      have l2 := (lenD_le (cutD a)).1
      have q1 : intE (cutN a) = 0 := intE_zero.2 ⟨hi, by rw [o5]; omega⟩
      have q2 : intE (cutD a) = 0 := intE_zero.2 ⟨i1, by omega⟩
      unfold bothE
      rw [q1, q2]; rfl
    have hg : gcdN (cutN a) (cutD a) = Nat.gcd (decV (cutN (ownS a))) (decV (cutD a)) := by
      unfold gcdN
      rw [i2, Int.natAbs_natCast, ← ratN_abs]
      rfl
    rw [hE]
    simp only [bne_self_eq_false, cond_false, Bool.false_or, one_iff, hg]
    refine ⟨by omega, by omega, bsplit_iff.2 ⟨fun k4 => bad 11 (by decide) ?_, fun k4 => ?_⟩⟩
    · rw [e2, show Nat.beq (Nat.gcd (decV (cutN (ownS a))) (decV (cutD a))) 1 = false by rw [Bool.not_eq_true'] at k4; exact k4]; rfl
    · exact fin (by rw [e2, show Nat.beq (Nat.gcd (decV (cutN (ownS a))) (decV (cutD a))) 1 = true by rw [Bool.not_eq_false'] at k4; exact k4]; rfl)
theorem rread_C {G : List (Nat × Obj)} (hG : TabIn G) (a : List UInt8) (hl : a.length ≤ 4294967280) : PureCall Tryz.prog G 132 [.str a] (.tup 2 (listFn [.agg 2 (listFn [.str (bif ratE a == 0 then cutN a else []), .str (bif ratE a == 0 then denS a else [])]), .i (ratE a)])) :=
  pure_of_vc (T := Trr G) (an := .auto) mixed (Trr_sound hG) (Eq.mp (by kernel_rfl) (rread_vc G a hl))
theorem rread_T {G : List (Nat × Obj)} (hG : TabIn G) : PureT Tryz.prog G 132 rread_t := by
  intro xs ps r h hp
  unfold rread_t at h
  split at h
  · skip
    rename_i a
    cases h
    obtain ⟨q0, -⟩ := allC hp
    exact weaken (ys := [.str a]) ⟨avM_refl _, trivial⟩ (rread_C hG a q0)
  · cases h
def rchk_t : List AV → Option (List Cond × AV)
  | [.str a] => some ([.p (a.length ≤ 4294967280)], .i (ratE a))
  | _ => none
theorem rchk_vc (G : List (Nat × Obj)) (a : List UInt8) (hl : a.length ≤ 4294967280) :
 bndL [AV.str a] → List.length a ≤ 4294967280 ∧ IntKind.i64 = .i64 ∧ ratE a = ratE a := by
  intro hb
  simp only [sS, dS, ltB_nat]
  exact hl
theorem rchk_C {G : List (Nat × Obj)} (hG : TabIn G) (a : List UInt8) (hl : a.length ≤ 4294967280) : PureCall Tryz.prog G 110 [.str a] (.i (ratE a)) :=
  pure_of_vc (T := (tb0 G).plus 132 rread_t) (an := .auto) mixed (TbSound.plus tb0_sound (rread_T hG)) (Eq.mp (by kernel_rfl) (rchk_vc G a hl))
theorem rchk_T {G : List (Nat × Obj)} (hG : TabIn G) : PureT Tryz.prog G 110 rchk_t := by
  intro xs ps r h hp
  unfold rchk_t at h
  split at h
  · skip
    rename_i a
    cases h
    obtain ⟨q0, -⟩ := allC hp
    exact weaken (ys := [.str a]) ⟨avM_refl _, trivial⟩ (rchk_C hG a q0)
  · cases h
def rcE (a b : Str) : Int := bif ratE a != 0 then ratE a else bif ratE b != 0 then ratE b else bif resE (ratN a * (ratD b : Int)) != 0 then resE (ratN a * (ratD b : Int)) else resE (ratN b * (ratD a : Int))
def rcV (a b : Str) : Int := bif rcE a b == 0 then cmpI (ratN a * (ratD b : Int)) (ratN b * (ratD a : Int)) else 0
noncomputable def Tcm0 (G : List (Nat × Obj)) : Tb := (((((tb0 G).plus 132 rread_t).plus 130 rnat_t).plus 145 iMul_t).plus 134 iCmp_t).plus 131 ccmp_t
theorem Tcm0_sound {G : List (Nat × Obj)} (hG : TabIn G) : TbSound Tryz.prog (Tcm0 G) := TbSound.plus (TbSound.plus (TbSound.plus (TbSound.plus (TbSound.plus tb0_sound (rread_T hG)) (PureT.mono rnat_T)) (iMul_T hG)) (iCmp_T hG)) (PureT.mono ccmp_T)
noncomputable def Tcm (G : List (Nat × Obj)) : Tb := (Tcm0 G).body Tryz.prog [(133, .auto)]
theorem Tcm_sound {G : List (Nat × Obj)} (hG : TabIn G) : TbSound Tryz.prog (Tcm G) := TbSound.body mixed (Tcm0_sound hG) _
def rCmp_t : List AV → Option (List Cond × AV)
  | [.str a, .str b] => some ([.p (a.length ≤ 4294967280), .p (b.length ≤ 4294967280)], .tup 2 (listFn [.i (rcV a b), .i (rcE a b)]))
  | _ => none
theorem rCmp_vc (G : List (Nat × Obj)) (a : List UInt8) (b : List UInt8) (hla : a.length ≤ 4294967280) (hlb : b.length ≤ 4294967280) :
 let q1 := ((bif natB a then ratN a else (0 : Int)) * bif natB b then (↑(ratD b) : Int) else (0 : Int)); let q2 := ((bif natB b then ratN b else (0 : Int)) * bif natB a then (↑(ratD a) : Int) else (0 : Int)); let q4 := (True ∧ IntKind.i64 = .i64 ∧ (0 : Int) = rcV a b); let q5 := (bif ratE a == (0 : Int) then cutN a else []); let q6 := (bif ratE b == (0 : Int) then denS b else []); let q7 := (opE (fun (x1 x2 : Int) => x1 * x2) q5 q6 != (0 : Int)); let q8 := (Array.toList (ByteArray.data (ByteArray.mk #[]))); let q9 := (bif ratE b == (0 : Int) then cutN b else []); let q10 := (bif ratE a == (0 :
 Int) then denS a else []); let q11 := (opS (fun (x1 x2 : Int) => x1 * x2) q5 q6); let q12 := (opS (fun (x1 x2 : Int) => x1 * x2) q9 q10); let q3 := (List.length a ≤ 4294967280 ∧ bsplit (ratE a != (0 : Int)) (2 = List.length [AV.junk, AV.junk] ∧ q4 ∧ IntKind.i64 = .i64 ∧ ratE a = rcE a b) (List.length b ≤ 4294967280 ∧ bsplit (ratE b != (0 : Int)) (2 = List.length [AV.junk, AV.junk] ∧ q4 ∧ IntKind.i64 = .i64 ∧ ratE b = rcE a b) (List.length q5 ≤ 4294967280 ∧ List.length q6 ≤ 4294967280 ∧ bsplit q7 (bsplit q7 (2 = List.length [AV.junk, AV.junk] ∧ q4 ∧ IntKind.i64 = .i64 ∧ opE (fun (x1 x2 : Int) =>
 x1 * x2) q5 q6 = rcE a b) (0 ≤ 4294967280 ∧ 0 ≤ 4294967280 ∧ 2 = List.length [AV.junk, AV.junk] ∧ (True ∧ IntKind.i64 = .i64 ∧ cmpV q8 q8 = rcV a b) ∧ IntKind.i64 = .i64 ∧ bothE q8 q8 = rcE a b)) (List.length q9 ≤ 4294967280 ∧ List.length q10 ≤ 4294967280 ∧ bsplit (opE (fun (x1 x2 : Int) => x1 * x2) q9 q10 != (0 : Int)) (2 = List.length [AV.junk, AV.junk] ∧ q4 ∧ IntKind.i64 = .i64 ∧ opE (fun (x1 x2 : Int) => x1 * x2) q9 q10 = rcE a b) (List.length q11 ≤ 4294967280 ∧ List.length q12 ≤ 4294967280 ∧ 2 = List.length [AV.junk, AV.junk] ∧ (True ∧ IntKind.i64 = .i64 ∧ cmpV q11 q12 = rcV a b) ∧
 IntKind.i64 = .i64 ∧ bothE q11 q12 = rcE a b))))); bndL [AV.str a, AV.str b] → List.length a ≤ 4294967280 ∧ bsplit (natB a) (List.length b ≤ 4294967280 ∧ bsplit (natB b) (bsplit (DB.db (inK .i64 q1)) (bsplit (DB.db (inK .i64 q2)) (2 = List.length [AV.junk, AV.junk] ∧ (True ∧ IntKind.i64 = .i64 ∧ cmpI q1 q2 = rcV a b) ∧ IntKind.i64 = .i64 ∧ (0 : Int) = rcE a b) False) False) q3) q3 := by
  dsimp only
  intro hb
  simp only [sS, dS, ltB_nat]
  have ncd := cutN_len a
  have ncb := cutN_len b
  have dl : ∀ a : Str, ratE a = 0 → (denS a).length ≤ 301 := fun a h => by have := (ratE_zero.1 h).2.2.1; unfold denS; cases slashB a <;> simp <;> omega
  have eA : ratE a ≠ 0 → 0 = rcV a b ∧ ratE a = rcE a b := fun h => by
    have e : rcE a b = ratE a := by unfold rcE; rw [bne_iff_ne.2 h]; rfl
    unfold rcV
    rw [e, beq_eq_false_iff_ne.2 h]
    exact ⟨rfl, rfl⟩
  have eB : ratE a = 0 → ratE b ≠ 0 → 0 = rcV a b ∧ ratE b = rcE a b := fun h0 h => by
    have e : rcE a b = ratE b := by unfold rcE; rw [h0, bne_iff_ne.2 h]; rfl
    unfold rcV
    rw [e, beq_eq_false_iff_ne.2 h]
    exact ⟨rfl, rfl⟩
  have eC : ratE a = 0 → ratE b = 0 → resE (ratN a * (ratD b : Int)) ≠ 0 → 0 = rcV a b ∧ resE (ratN a * (ratD b : Int)) = rcE a b := fun h0 h1 h => by
    have e : rcE a b = resE (ratN a * (ratD b : Int)) := by unfold rcE; rw [h0, h1, bne_iff_ne.2 h]; rfl
    unfold rcV
    rw [e, beq_eq_false_iff_ne.2 h]
    exact ⟨rfl, rfl⟩
  have eD : ratE a = 0 → ratE b = 0 → resE (ratN a * (ratD b : Int)) = 0 → rcE a b = resE (ratN b * (ratD a : Int)) := fun h0 h1 h => by
    unfold rcE; rw [h0, h1, h]; rfl
  have big : ratE a = 0 → ratE b = 0 → _ := fun h0 h1 => And.intro (opm h0 h1) (opm h1 h0)
  refine ⟨hla, bsplit_iff.2 ⟨fun c => ⟨hlb, bsplit_iff.2 ⟨fun c2 => ?_, fun c2 => ?_⟩⟩, fun c => ?_⟩⟩
  · obtain ⟨a1, a2, a3⟩ := nat_rat c
    obtain ⟨b1, b2, b3⟩ := nat_rat c2
    rw [c, c2]
    simp only [cond_true]
    have m1 : (ratN a * (ratD b : Int)).natAbs ≤ 99999999 * 99999999 := by rw [Int.natAbs_mul, Int.natAbs_natCast]; exact Nat.mul_le_mul a2 b3
    have m2 : (ratN b * (ratD a : Int)).natAbs ≤ 99999999 * 99999999 := by rw [Int.natAbs_mul, Int.natAbs_natCast]; exact Nat.mul_le_mul b2 a3
    obtain ⟨r1, r2⟩ := res_small (n := ratN a * (ratD b : Int)) (k := 20) (by omega) (by omega) (by omega)
    obtain ⟨r3, r4⟩ := res_small (n := ratN b * (ratD a : Int)) (k := 20) (by omega) (by omega) (by omega)
    have e := eD a1 b1 r2
    rw [r4] at e
    unfold rcV
    rw [e]
    exact ⟨⟨by omega, by omega⟩, ⟨by omega, by omega⟩, rfl, rfl, rfl⟩
  all_goals
    refine ⟨hla, fun h => ⟨rfl, eA h⟩, fun h0 => ⟨hlb, fun h => ⟨rfl, eB h0 h⟩, fun h1 => ?_⟩⟩
    obtain ⟨⟨p1, p2⟩, p3, p4⟩ := big h0 h1
    have dla := dl a h0
    have dlb := dl b h1
    rw [h0, h1]
    simp only [beq_self_eq_true, cond_true, p1, p2, p3, p4]
    refine ⟨by omega, by omega, fun h => ⟨fun _ => ⟨rfl, eC h0 h1 h⟩, fun h2 => absurd h2 h⟩, fun h => ⟨by omega, by omega, fun h2 => ?_, fun h2 => ?_⟩⟩
    · have e := eD h0 h1 h
      unfold rcV
      rw [e, beq_eq_false_iff_ne.2 h2]
      exact ⟨rfl, rfl, rfl⟩
    · have e := eD h0 h1 h
      rw [h2] at e
      obtain ⟨q1, q2, q3, q4⟩ := cmp_res h h2
      unfold rcV
      rw [e, q1, q2]
      exact ⟨q3, q4, rfl, rfl, rfl⟩
theorem rCmp_C {G : List (Nat × Obj)} (hG : TabIn G) (a : List UInt8) (b : List UInt8) (hla : a.length ≤ 4294967280) (hlb : b.length ≤ 4294967280) : PureCall Tryz.prog G 90 [.str a, .str b] (.tup 2 (listFn [.i (rcV a b), .i (rcE a b)])) :=
  pure_of_vc (T := Tcm G) (an := .auto) mixed (Tcm_sound hG) (Eq.mp (by kernel_rfl) (rCmp_vc G a b hla hlb))
theorem rCmp_T {G : List (Nat × Obj)} (hG : TabIn G) : PureT Tryz.prog G 90 rCmp_t := by
  intro xs ps r h hp
  unfold rCmp_t at h
  split at h
  · skip
    rename_i a b
    cases h
    obtain ⟨q0, q1, -⟩ := allC hp
    exact weaken (ys := [.str a, .str b]) ⟨avM_refl _, avM_refl _, trivial⟩ (rCmp_C hG a b q0 q1)
  · cases h
end Go.Te

namespace Go.Te
open Go Go.Sx Go.Proofs Go.Ar
set_option maxRecDepth 100000
set_option maxHeartbeats 4000000
def r1plus_an (x y : List Int) : Ann :=
  .two .auto (.two .auto (.two .auto (.two (.two .auto (.one (.loop LbC (fun σ z => [(0, σ.tm 0), (1, σ.tm 1), (5, .ns σ.nb 0 z.out.length), (6, .i z.c), (7, .i (z.out.length : Int))]) (fun σ z => [(σ.nb, iArr z.out)]) 1 (fun σ z => SumZ 1000000 x y z.out.length z.out z.c ∧ z.out.length ≤ max x.length y.length + 1 ∧ (z.out.length = max x.length y.length + 1 → z.c = 0)) (fun σ z => max x.length y.length + 1 - z.out.length) .auto))) .auto)))
def r1plus_t : List AV → Option (List Cond × AV)
  | [x_x, x_y] => some ([.b (slOk Int x_x), .b (slOk Int x_y), .p (InL 1000000 (intsOf x_x)), .p (InL 1000000 (intsOf x_y)), .p ((intsOf x_x).length ≤ 1000000000), .p ((intsOf x_y).length ≤ 1000000000)], slE (limbs 1000000 (valL 1000000 (intsOf x_x) + valL 1000000 (intsOf x_y)).toNat))
  | _ => none
theorem r1plus_vc (x : List Int) (y : List Int) (hx : InL 1000000 x) (hy : InL 1000000 y) (hlx : x.length ≤ 1000000000) (hly : y.length ≤ 1000000000) :
 let q1 := (AV.xl false 1 (List.length x) fun i j => AV.v (Value.int .i64 (List.getD x i Enc.dflt))); let q2 := (AV.xl false 1 (List.length y) fun i j => AV.v (Value.int .i64 (List.getD y i Enc.dflt))); let q6 := (intsOf q1); let q8 := (intsOf q2); let q11 := (limbs 1000000 (Int.toNat (valL (1000000 : Int) x + valL (1000000 : Int) y))); bndL [AV.xl false 1 (List.length x) fun i j => AV.v (Value.int .i64 (List.getD x i Enc.dflt)), AV.xl false 1 (List.length y) fun i j => AV.v (Value.int .i64 (List.getD y i Enc.dflt))] → (∃ (z : LbC), ((SumZ (1000000 : Int) x y (List.length (LbC.out z)) (LbC.out
 z) (LbC.c z) ∧ List.length (LbC.out z) ≤ max (List.length x) (List.length y) + 1 ∧ (List.length (LbC.out z) = max (List.length x) (List.length y) + 1 → LbC.c z = (0 : Int))) ∧ avM q1 q1 ∧ avM q2 q2 ∧ (some (Non Nat) = some (Non Nat) ∧ 0 = 0 ∧ List.length (LbC.out z) = 0 ∧ true = true ∧ 0 = 0) ∧ (IntKind.i64 = .i64 ∧ (0 : Int) = LbC.c z) ∧ IntKind.i64 = .i64 ∧ (0 : Int) = (↑(List.length (LbC.out z)) : Int)) ∧ List.length (LbC.out z) = 0) ∧ ∀ (z : LbC), let q4 := (ltB (↑(List.length (LbC.out z)) : Int) (↑(List.length x) : Int)); let q3 := (!bsel false q4 || bsel false q4); let q5 := (bif ltB
 (↑(List.length (LbC.out z)) : Int) (↑(List.length x) : Int) then true else ltB (↑(List.length (LbC.out z)) : Int) (↑(List.length y) : Int)); let q7 := (Int.toNat (↑(List.length (LbC.out z)) : Int)); let q9 := (List.getD q6 q7 (0 : Int) + List.getD q8 q7 (0 : Int) + LbC.c z); let q10 := (AV.xl false 1 (List.length (LbC.out z)) fun i j => AV.v (Value.int .i64 (List.getD (LbC.out z) (0 + i) (0 : Int)))); let q12 := (trimL (intsOf q10)); SumZ (1000000 : Int) x y (List.length (LbC.out z)) (LbC.out z) (LbC.c z) ∧ List.length (LbC.out z) ≤ max (List.length x) (List.length y) + 1 ∧ (List.length
 (LbC.out z) = max (List.length x) (List.length y) + 1 → LbC.c z = (0 : Int)) → bsplit q3 (bsplit q3 (bsplit q3 (bsplit (!!ltB (↑(List.length (LbC.out z)) : Int) (↑(List.length x) : Int) || bsel false q4) (bsplit (!bsel false q5 || bsel false q5) (bsplit ((!!bif ltB (↑(List.length (LbC.out z)) : Int) (↑(List.length x) : Int) then true else ltB (↑(List.length (LbC.out z)) : Int) (↑(List.length y) : Int)) || bsel false q5) (bsplit (bif bif ltB (↑(List.length (LbC.out z)) : Int) (↑(List.length x) : Int) then true else ltB (↑(List.length (LbC.out z)) : Int) (↑(List.length y) : Int) then true else
 ltB (0 : Int) (LbC.c z)) (bsplit (slOk Int q1) ((0 : Int) ≤ (↑(List.length (LbC.out z)) : Int) ∧ bsplit (slOk Int q2) ((0 : Int) ≤ (↑(List.length (LbC.out z)) : Int) ∧ bsplit (DB.db (inK .i64 (List.getD q6 q7 (0 : Int) + List.getD q8 q7 (0 : Int)))) (bsplit (DB.db (inK .i64 q9)) (bsplit (DB.db ((List.length (LbC.out z) + 1) * 8 ≤ 140737488355328)) (bsplit (DB.db (inK .i64 (Int.tdiv q9 (1000000 : Int)))) (bsplit (DB.db (inK .i64 ((↑(List.length (LbC.out z)) : Int) + (1 : Int)))) (∃ (z' : LbC), (((SumZ (1000000 : Int) x y (List.length (LbC.out z')) (LbC.out z') (LbC.c z') ∧ List.length (LbC.out
 z') ≤ max (List.length x) (List.length y) + 1 ∧ (List.length (LbC.out z') = max (List.length x) (List.length y) + 1 → LbC.c z' = (0 : Int))) ∧ max (List.length x) (List.length y) + 1 - List.length (LbC.out z') < max (List.length x) (List.length y) + 1 - List.length (LbC.out z)) ∧ avM q1 q1 ∧ avM q2 q2 ∧ (nat_lit 0 = 0 ∧ 0 = 0 ∧ List.length (LbC.out z') = List.length (LbC.out z) + 1) ∧ (IntKind.i64 = .i64 ∧ Int.tdiv q9 (1000000 : Int) = LbC.c z') ∧ IntKind.i64 = .i64 ∧ (↑(List.length (LbC.out z)) : Int) + (1 : Int) = (↑(List.length (LbC.out z')) : Int)) ∧ (3 : TypeId) = 3 ∧ 1 = 1 ∧ List.length
 (LbC.out z') = List.length (LbC.out z) + 1 ∧ ∀ (i j : Nat), i < List.length (LbC.out z) + 1 → j < 1 → avM (if i < List.length (LbC.out z) then AV.v (Value.int .i64 (List.getD (LbC.out z) i (0 : Int))) else Sx.rowAt [fun (x_1 : Nat) => AV.v (Value.int .i64 (Int.tmod q9 (1000000 : Int)))] (i - List.length (LbC.out z)) j) (AV.v (Value.int .i64 (List.getD (LbC.out z') i (0 : Int))))) False) False) False) False) False) False) False) (bsplit (slOk Int q10) ((false = true → false = true) ∧ 1 = 1 ∧ List.length q11 = List.length q12 ∧ ∀ (i j : Nat), i < List.length q12 → j < 1 → IntKind.i64 = .i64 ∧
 List.getD q12 i Enc.dflt = List.getD q11 i Enc.dflt) False)) False) False) False) False) False) False := by
  dsimp only
  intro hb
  have e0 : (Enc.dflt : Int) = 0 := rfl
  simp only [↓vc_db, ↓vc_gdb, row_one]
  simp only [sS, dS, e0]
  refine ⟨⟨⟨[], 0⟩, ⟨⟨.zero _ _ _, by simp, fun h => rfl⟩, rfl, rfl, rfl⟩, rfl⟩, fun z ⟨z1, z2, z3⟩ => bsplit_iff.2 ⟨fun c => ?_, fun c => ?_⟩⟩
  · have g1 := hx.get (by omega) z.out.length
    have g2 := hy.get (by omega) z.out.length
    have c0 := z1.c0
    have c1 := z1.c1
    have hs := SumZ.step (by omega) hx hy z1
    have d0 := hs.c0
    have d1 := hs.c1
    have hz : z.out.length ≤ max x.length y.length := by
      rw [Bool.or_eq_true, Bool.or_eq_true, ltB_iff, ltB_iff, ltB_iff] at c
      rcases c with (c | c) | c
      · omega
      · omega
      · refine Decidable.byContradiction fun hn => ?_
        have := z3 (by omega)
        omega
    refine ⟨by omega, by omega, ⟨by omega, by omega⟩, ⟨by omega, by omega⟩, by omega, ⟨by omega, by omega⟩, ⟨by omega, by omega⟩, ⟨z.out ++ [(x.getD z.out.length 0 + y.getD z.out.length 0 + z.c).tmod 1000000], (x.getD z.out.length 0 + y.getD z.out.length 0 + z.c).tdiv 1000000⟩, ⟨⟨⟨by simp only [List.length_append, List.length_singleton]; exact hs, by simp; omega, fun h => ?_⟩, by simp; omega⟩, by simp, rfl, by simp⟩, by simp, fun i j => snocI _ _ i j⟩
    have hm : z.out.length = max x.length y.length := by simp at h; omega
    rw [getD_outI (l := x) (by omega), getD_outI (l := y) (by omega)]
    have : (0 + 0 + z.c).tdiv 1000000 = 0 := by rw [Int.tdiv_eq_ediv_of_nonneg (by omega)]; omega
    exact this
  · rw [Bool.or_eq_false_iff, Bool.or_eq_false_iff, Bool.eq_false_iff, Bool.eq_false_iff, Bool.eq_false_iff, Ne, Ne, Ne, ltB_iff, ltB_iff, ltB_iff] at c
    have c0 := z1.c0
    have hv := z1.val
    rw [show z.c = 0 by omega, Int.mul_zero, Int.add_zero, List.take_of_length_le (show x.length ≤ z.out.length by omega), List.take_of_length_le (show y.length ≤ z.out.length by omega)] at hv
    have ht : trimL z.out = limbs 1000000 (valL 1000000 z.out).toNat := trim_eq (b := 1000000) (by omega) z1.in_
    rw [hv] at ht
    rw [ht]
    exact ⟨fun h => h, rfl, fun _ _ _ _ => rfl⟩
theorem r1plus_C (x : List Int) (y : List Int) (hx : InL 1000000 x) (hy : InL 1000000 y) (hlx : x.length ≤ 1000000000) (hly : y.length ≤ 1000000000) : PureCall Tryz.prog [] 162 [slE x, slE y] (slE (limbs 1000000 (valL 1000000 x + valL 1000000 y).toNat)) :=
  pure_of_vc (T := (T0.plus 154 r1trim_t).plus 156 r1limb_t) (an := r1plus_an x y) mixed (TbSound.plus (TbSound.plus tb0_sound r1trim_T) r1limb_T) (Eq.mp (by kernel_rfl) (r1plus_vc x y hx hy hlx hly))
theorem r1plus_T : PureT Tryz.prog [] 162 r1plus_t := by
  intro xs ps r h hp
  unfold r1plus_t at h
  split at h
  · skip
    rename_i x_x x_y
    cases h
    obtain ⟨q0, q1, q2, q3, q4, q5, -⟩ := allC hp
    exact weaken (ys := [slE (intsOf x_x), slE (intsOf x_y)]) ⟨slE_sound q0, slE_sound q1, trivial⟩ (r1plus_C (intsOf x_x) (intsOf x_y) q2 q3 q4 q5)
  · cases h
def r1neg_t : List AV → Option (List Cond × AV)
  | [x_x] => some ([.b (agOk Big x_x)], .agg 2 (listFn [.b (bif Nat.beq (agD (α := Big) x_x).l.length 0 then (agD (α := Big) x_x).neg else !(agD (α := Big) x_x).neg), slE (agD (α := Big) x_x).l]))
  | _ => none
theorem r1neg_vc (x : Big) :
 bndL [AV.agg 2 (Enc.enc x)] → bsplit ((↑(List.length (Big.l x)) : Int) == (0 : Int)) (2 = 2 ∧ (Big.neg x = bif Nat.beq (List.length (Big.l x)) 0 then Big.neg x else !Big.neg x) ∧ (false = true → false = true) ∧ 1 = 1 ∧ List.length (Big.l x) = List.length (Big.l x) ∧ ∀ (i j : Nat), i < List.length (Big.l x) → j < 1 → IntKind.i64 = .i64 ∧ List.getD (Big.l x) i Enc.dflt = List.getD (Big.l x) i Enc.dflt) (2 = 2 ∧ ((!Big.neg x) = bif Nat.beq (List.length (Big.l x)) 0 then Big.neg x else !Big.neg x) ∧ (false = true → false = true) ∧ 1 = 1 ∧ List.length (Big.l x) = List.length (Big.l x) ∧ ∀ (i j :
 Nat), i < List.length (Big.l x) → j < 1 → IntKind.i64 = .i64 ∧ List.getD (Big.l x) i Enc.dflt = List.getD (Big.l x) i Enc.dflt) := by
  intro hb
  have e0 : (Enc.dflt : Int) = 0 := rfl
  simp only [↓vc_db, ↓vc_gdb, row_one]
  simp only [sS, dS, e0]
  refine ⟨fun h => ⟨?_, fun h => h, fun _ _ _ _ => trivial⟩, fun h => ⟨?_, fun h => h, fun _ _ _ _ => trivial⟩⟩
  · rw [show Nat.beq x.l.length 0 = true by rw [Nat.beq_eq]; omega]; rfl
  · rw [show Nat.beq x.l.length 0 = false from Bool.eq_false_iff.2 fun e => by rw [Nat.beq_eq] at e; omega]; rfl
theorem r1neg_C (x : Big) : PureCall Tryz.prog [] 109 [agE x] (.agg 2 (listFn [.b (bif Nat.beq x.l.length 0 then x.neg else !x.neg), slE x.l])) :=
  pure_of_vc (T := T0) (an := .auto) mixed tb0_sound (Eq.mp (by kernel_rfl) (r1neg_vc x))
theorem r1neg_T : PureT Tryz.prog [] 109 r1neg_t := by
  intro xs ps r h hp
  unfold r1neg_t at h
  split at h
  · skip
    rename_i x_x
    cases h
    obtain ⟨q0, -⟩ := allC hp
    exact weaken (ys := [agE (agD (α := Big) x_x)]) ⟨agE_sound q0, trivial⟩ (r1neg_C (agD (α := Big) x_x))
  · cases h
def sv6 (n : Bool) (l : List Int) : Int := bif n then - valL 1000000 l else valL 1000000 l
def aN6 (x y : Big) : Bool := bif x.neg == y.neg then x.neg else bif ltB (sgn (cmpL x.l y.l)) 0 then (bif Nat.beq (valL 1000000 y.l - valL 1000000 x.l).toNat 0 then false else y.neg) else (bif Nat.beq (valL 1000000 x.l - valL 1000000 y.l).toNat 0 then false else x.neg)
def aV6 (x y : Big) : Int := bif x.neg == y.neg then valL 1000000 x.l + valL 1000000 y.l else bif ltB (sgn (cmpL x.l y.l)) 0 then valL 1000000 y.l - valL 1000000 x.l else valL 1000000 x.l - valL 1000000 y.l
theorem cmp6 {x y : List Int} (hx : InL 1000000 x) (hy : InL 1000000 y) (tx : trimL x = x) (ty : trimL y = y) :
    (sgn (cmpL x y) < 0 → valL 1000000 x < valL 1000000 y ∧ x.length ≤ y.length) ∧ (0 ≤ sgn (cmpL x y) → valL 1000000 y ≤ valL 1000000 x ∧ y.length ≤ x.length) := by
  have e1 : x = limbs 1000000 (valL 1000000 x).toNat := limbs_eq (b := 1000000) (by omega) hx tx
  have e2 : y = limbs 1000000 (valL 1000000 y).toNat := limbs_eq (b := 1000000) (by omega) hy ty
  have v1 := valL_nonneg (b := 1000000) (by omega) hx
  have v2 := valL_nonneg (b := 1000000) (by omega) hy
  have c := (cmpL_sign (b := 1000000) (by omega) (valL 1000000 x).toNat (valL 1000000 y).toNat).1
  rw [← e1, ← e2] at c
  refine ⟨fun h => ?_, fun h => ?_⟩
  · rw [sgn_lt] at h
    have h1 := c.1 h
    have := limbs_len_mono (b := 1000000) (m := (valL 1000000 x).toNat) (n := (valL 1000000 y).toNat) (by omega) (by omega)
    rw [← e1, ← e2] at this
    exact ⟨by omega, this⟩
  · have h0 : ¬ cmpL x y < 0 := fun e => by rw [← sgn_lt] at e; omega
    have h1 : ¬ (valL 1000000 x).toNat < (valL 1000000 y).toNat := fun e => h0 (c.2 e)
    have := limbs_len_mono (b := 1000000) (m := (valL 1000000 y).toNat) (n := (valL 1000000 x).toNat) (by omega) (by omega)
    rw [← e1, ← e2] at this
    exact ⟨by omega, this⟩
theorem len0 {n : Nat} (h : ((limbs 1000000 n).length : Int) = 0) : Nat.beq n 0 = true := by rw [Nat.beq_eq]; exact limbs_nil (b := 1000000) (by omega) (by omega)
theorem len1 {n : Nat} (h : ((limbs 1000000 n).length : Int) ≠ 0) : Nat.beq n 0 = false := Bool.eq_false_iff.2 fun e => by
  rw [Nat.beq_eq] at e
  rw [e, limbs_zero] at h
  exact h rfl
def r1add_t : List AV → Option (List Cond × AV)
  | [x_x, x_y] => some ([.b (agOk Big x_x), .b (agOk Big x_y), .p (InL 1000000 (agD (α := Big) x_x).l), .p (InL 1000000 (agD (α := Big) x_y).l), .p (trimL (agD (α := Big) x_x).l = (agD (α := Big) x_x).l), .p (trimL (agD (α := Big) x_y).l = (agD (α := Big) x_y).l), .p ((agD (α := Big) x_x).l.length ≤ 1000000000), .p ((agD (α := Big) x_y).l.length ≤ 1000000000)], .agg 2 (listFn [.b (aN6 (agD (α := Big) x_x) (agD (α := Big) x_y)), slE (limbs 1000000 (aV6 (agD (α := Big) x_x) (agD (α := Big) x_y)).toNat)]))
  | _ => none
theorem r1add_vc (x : Big) (y : Big) (hx : InL 1000000 x.l) (hy : InL 1000000 y.l) (tx : trimL x.l = x.l) (ty : trimL y.l = y.l) (lx : x.l.length ≤ 1000000000) (ly : y.l.length ≤ 1000000000) :
 let q2 := (AV.xl false 1 (List.length (Big.l x)) fun i j => AV.v (Value.int .i64 (List.getD (Big.l x) i Enc.dflt))); let q1 := (slOk Int q2); let q4 := (AV.xl false 1 (List.length (Big.l y)) fun i j => AV.v (Value.int .i64 (List.getD (Big.l y) i Enc.dflt))); let q3 := (slOk Int q4); let q6 := (intsOf q2); let q5 := (∀ (x_1 : Int), List.Mem x_1 q6 → (0 : Int) ≤ x_1 ∧ x_1 < (1000000 : Int)); let q8 := (intsOf q4); let q7 := (∀ (x : Int), List.Mem x q8 → (0 : Int) ≤ x ∧ x < (1000000 : Int)); let q9 := (limbs 1000000 (Int.toNat (valL (1000000 : Int) q6 + valL (1000000 : Int) q8))); let q10 :=
 (limbs 1000000 (Int.toNat (valL (1000000 : Int) q8 - valL (1000000 : Int) q6))); let q11 := (limbs 1000000 (Int.toNat (valL (1000000 : Int) q6 - valL (1000000 : Int) q8))); bndL [AV.agg 2 (Enc.enc x), AV.agg 2 (Enc.enc y)] → bsplit (Big.neg x == Big.neg y) (bsplit q1 (bsplit q3 (q5 ∧ q7 ∧ List.length q6 ≤ 1000000000 ∧ List.length q8 ≤ 1000000000 ∧ 2 = 2 ∧ Big.neg x = aN6 x y ∧ (false = true → false = true) ∧ 1 = 1 ∧ List.length (limbs 1000000 (Int.toNat (aV6 x y))) = List.length q9 ∧ ∀ (i j : Nat), i < List.length q9 → j < 1 → IntKind.i64 = .i64 ∧ List.getD q9 i Enc.dflt = List.getD (limbs
 1000000 (Int.toNat (aV6 x y))) i Enc.dflt) False) False) (bsplit q1 (bsplit q3 (bsplit (ltB (sgn (cmpL q6 q8)) (0 : Int)) (bsplit q3 (bsplit q1 (q7 ∧ q5 ∧ List.length q6 ≤ List.length q8 ∧ List.length q8 ≤ 1000000000 ∧ valL (1000000 : Int) q6 ≤ valL (1000000 : Int) q8 ∧ bsplit ((↑(List.length q10) : Int) == (0 : Int)) (2 = 2 ∧ false = aN6 x y ∧ (false = true → false = true) ∧ 1 = 1 ∧ List.length (limbs 1000000 (Int.toNat (aV6 x y))) = List.length q10 ∧ ∀ (i j : Nat), i < List.length q10 → j < 1 → IntKind.i64 = .i64 ∧ List.getD q10 i Enc.dflt = List.getD (limbs 1000000 (Int.toNat (aV6 x y))) i
 Enc.dflt) (2 = 2 ∧ Big.neg y = aN6 x y ∧ (false = true → false = true) ∧ 1 = 1 ∧ List.length (limbs 1000000 (Int.toNat (aV6 x y))) = List.length q10 ∧ ∀ (i j : Nat), i < List.length q10 → j < 1 → IntKind.i64 = .i64 ∧ List.getD q10 i Enc.dflt = List.getD (limbs 1000000 (Int.toNat (aV6 x y))) i Enc.dflt)) False) False) (bsplit q1 (bsplit q3 (q5 ∧ q7 ∧ List.length q8 ≤ List.length q6 ∧ List.length q6 ≤ 1000000000 ∧ valL (1000000 : Int) q8 ≤ valL (1000000 : Int) q6 ∧ bsplit ((↑(List.length q11) : Int) == (0 : Int)) (2 = 2 ∧ false = aN6 x y ∧ (false = true → false = true) ∧ 1 = 1 ∧ List.length
 (limbs 1000000 (Int.toNat (aV6 x y))) = List.length q11 ∧ ∀ (i j : Nat), i < List.length q11 → j < 1 → IntKind.i64 = .i64 ∧ List.getD q11 i Enc.dflt = List.getD (limbs 1000000 (Int.toNat (aV6 x y))) i Enc.dflt) (2 = 2 ∧ Big.neg x = aN6 x y ∧ (false = true → false = true) ∧ 1 = 1 ∧ List.length (limbs 1000000 (Int.toNat (aV6 x y))) = List.length q11 ∧ ∀ (i j : Nat), i < List.length q11 → j < 1 → IntKind.i64 = .i64 ∧ List.getD q11 i Enc.dflt = List.getD (limbs 1000000 (Int.toNat (aV6 x y))) i Enc.dflt)) False) False)) False) False) := by
  dsimp only
  intro hb
  have e0 : (Enc.dflt : Int) = 0 := rfl
  simp only [↓vc_db, ↓vc_gdb, row_one]
  simp only [sS, dS, e0]
  obtain ⟨c1, c2⟩ := cmp6 hx hy tx ty
  refine bsplit_iff.2 ⟨fun c => ⟨hx, hy, lx, ly, ?_, fun h => h, ?_, fun i j _ _ => ?_⟩, fun c => ⟨fun h => ⟨hy, hx, (c1 h).2, ly, by have := (c1 h).1; omega, fun h2 => ⟨?_, fun h => h, ?_, fun i j _ _ => ?_⟩, fun h2 => ⟨?_, fun h => h, ?_, fun i j _ _ => ?_⟩⟩,
    fun h => ⟨hx, hy, (c2 h).2, lx, (c2 h).1, fun h2 => ⟨?_, fun h => h, ?_, fun i j _ _ => ?_⟩, fun h2 => ⟨?_, fun h => h, ?_, fun i j _ _ => ?_⟩⟩⟩⟩
  any_goals (unfold aN6; rw [c]; first | rfl | (rw [show ltB (sgn (cmpL x.l y.l)) 0 = true from (ltB_iff _ _).2 h]; first | (rw [len0 h2]; rfl) | (rw [len1 h2]; rfl)) | (rw [show ltB (sgn (cmpL x.l y.l)) 0 = false from Bool.eq_false_iff.2 fun e => by have := (ltB_iff _ _).1 e; omega]; first | (rw [len0 h2]; rfl) | (rw [len1 h2]; rfl)))
  all_goals (unfold aV6; rw [c]; first | rfl | (rw [show ltB (sgn (cmpL x.l y.l)) 0 = true from (ltB_iff _ _).2 h]; rfl) | (rw [show ltB (sgn (cmpL x.l y.l)) 0 = false from Bool.eq_false_iff.2 fun e => by have := (ltB_iff _ _).1 e; omega]; rfl))
theorem r1add_C (x : Big) (y : Big) (hx : InL 1000000 x.l) (hy : InL 1000000 y.l) (tx : trimL x.l = x.l) (ty : trimL y.l = y.l) (lx : x.l.length ≤ 1000000000) (ly : y.l.length ≤ 1000000000) : PureCall Tryz.prog [] 108 [agE x, agE y] (.agg 2 (listFn [.b (aN6 x y), slE (limbs 1000000 (aV6 x y).toNat)])) :=
  pure_of_vc (T := ((T0.plus 159 r1size_t).plus 162 r1plus_t).plus 157 r1minus_t) (an := .auto) mixed (TbSound.plus (TbSound.plus (TbSound.plus tb0_sound r1size_T) r1plus_T) r1minus_T) (Eq.mp (by kernel_rfl) (r1add_vc x y hx hy tx ty lx ly))
theorem r1add_T : PureT Tryz.prog [] 108 r1add_t := by
  intro xs ps r h hp
  unfold r1add_t at h
  split at h
  · skip
    rename_i x_x x_y
    cases h
    obtain ⟨q0, q1, q2, q3, q4, q5, q6, q7, -⟩ := allC hp
    exact weaken (ys := [agE (agD (α := Big) x_x), agE (agD (α := Big) x_y)]) ⟨agE_sound q0, agE_sound q1, trivial⟩ (r1add_C (agD (α := Big) x_x) (agD (α := Big) x_y) q2 q3 q4 q5 q6 q7)
  · cases h
def r1mul_t : List AV → Option (List Cond × AV)
  | [x_x, x_y] => some ([.b (agOk Big x_x), .b (agOk Big x_y), .p (InL 1000000 (agD (α := Big) x_x).l), .p (InL 1000000 (agD (α := Big) x_y).l), .p ((agD (α := Big) x_x).l.length ≤ 1000000000), .p ((agD (α := Big) x_y).l.length ≤ 1000000000)], .agg 2 (listFn [.b (bif Nat.beq (valL 1000000 (agD (α := Big) x_x).l * valL 1000000 (agD (α := Big) x_y).l).toNat 0 then false else !((agD (α := Big) x_x).neg == (agD (α := Big) x_y).neg)), slE (limbs 1000000 (valL 1000000 (agD (α := Big) x_x).l * valL 1000000 (agD (α := Big) x_y).l).toNat)]))
  | _ => none
theorem r1mul_vc (x : Big) (y : Big) (hx : InL 1000000 x.l) (hy : InL 1000000 y.l) (lx : x.l.length ≤ 1000000000) (ly : y.l.length ≤ 1000000000) :
 let q1 := (AV.xl false 1 (List.length (Big.l x)) fun i j => AV.v (Value.int .i64 (List.getD (Big.l x) i Enc.dflt))); let q2 := (AV.xl false 1 (List.length (Big.l y)) fun i j => AV.v (Value.int .i64 (List.getD (Big.l y) i Enc.dflt))); let q3 := (intsOf q1); let q4 := (intsOf q2); let q5 := (limbs 1000000 (Int.toNat (valL (1000000 : Int) q3 * valL (1000000 : Int) q4))); let q6 := (Int.toNat (valL (1000000 : Int) (Big.l x) * valL (1000000 : Int) (Big.l y))); let q7 := (limbs 1000000 q6); bndL [AV.agg 2 (Enc.enc x), AV.agg 2 (Enc.enc y)] → bsplit (slOk Int q1) (bsplit (slOk Int q2) ((∀ (x_1 : Int),
 List.Mem x_1 q3 → (0 : Int) ≤ x_1 ∧ x_1 < (1000000 : Int)) ∧ (∀ (x : Int), List.Mem x q4 → (0 : Int) ≤ x ∧ x < (1000000 : Int)) ∧ List.length q3 ≤ 1000000000 ∧ List.length q4 ≤ 1000000000 ∧ bsplit ((↑(List.length q5) : Int) == (0 : Int)) (2 = 2 ∧ (false = bif Nat.beq q6 0 then false else !Big.neg x == Big.neg y) ∧ (false = true → false = true) ∧ 1 = 1 ∧ List.length q7 = List.length q5 ∧ ∀ (i j : Nat), i < List.length q5 → j < 1 → IntKind.i64 = .i64 ∧ List.getD q5 i Enc.dflt = List.getD q7 i Enc.dflt) (2 = 2 ∧ ((!Big.neg x == Big.neg y) = bif Nat.beq q6 0 then false else !Big.neg x == Big.neg y)
 ∧ (false = true → false = true) ∧ 1 = 1 ∧ List.length q7 = List.length q5 ∧ ∀ (i j : Nat), i < List.length q5 → j < 1 → IntKind.i64 = .i64 ∧ List.getD q5 i Enc.dflt = List.getD q7 i Enc.dflt)) False) False := by
  dsimp only
  intro hb
  have e0 : (Enc.dflt : Int) = 0 := rfl
  simp only [↓vc_db, ↓vc_gdb, row_one]
  simp only [sS, dS, e0]
  refine ⟨hx, hy, lx, ly, fun h => ⟨?_, fun h => h, fun _ _ _ _ => trivial⟩, fun h => ⟨?_, fun h => h, fun _ _ _ _ => trivial⟩⟩
  · rw [len0 h]; rfl
  · rw [len1 h]; rfl
theorem r1mul_C (x : Big) (y : Big) (hx : InL 1000000 x.l) (hy : InL 1000000 y.l) (lx : x.l.length ≤ 1000000000) (ly : y.l.length ≤ 1000000000) : PureCall Tryz.prog [] 161 [agE x, agE y] (.agg 2 (listFn [.b (bif Nat.beq (valL 1000000 x.l * valL 1000000 y.l).toNat 0 then false else !(x.neg == y.neg)), slE (limbs 1000000 (valL 1000000 x.l * valL 1000000 y.l).toNat)])) :=
  pure_of_vc (T := T0.plus 158 r1times_t) (an := .auto) mixed (TbSound.plus tb0_sound r1times_T) (Eq.mp (by kernel_rfl) (r1mul_vc x y hx hy lx ly))
theorem r1mul_T : PureT Tryz.prog [] 161 r1mul_t := by
  intro xs ps r h hp
  unfold r1mul_t at h
  split at h
  · skip
    rename_i x_x x_y
    cases h
    obtain ⟨q0, q1, q2, q3, q4, q5, -⟩ := allC hp
    exact weaken (ys := [agE (agD (α := Big) x_x), agE (agD (α := Big) x_y)]) ⟨agE_sound q0, agE_sound q1, trivial⟩ (r1mul_C (agD (α := Big) x_x) (agD (α := Big) x_y) q2 q3 q4 q5)
  · cases h
theorem sv_add {x y : Big} (hx : InL 1000000 x.l) (hy : InL 1000000 y.l) (tx : trimL x.l = x.l) (ty : trimL y.l = y.l) :
    0 ≤ aV6 x y ∧ (bif aN6 x y then - aV6 x y else aV6 x y) = sv6 x.neg x.l + sv6 y.neg y.l := by
  have v1 := valL_nonneg (b := 1000000) (by omega) hx
  have v2 := valL_nonneg (b := 1000000) (by omega) hy
  obtain ⟨c1, c2⟩ := cmp6 hx hy tx ty
  unfold aN6 aV6 sv6
  cases hl : ltB (sgn (cmpL x.l y.l)) 0 with
  | true =>
    have h := c1 ((ltB_iff _ _).1 hl)
    rw [show Nat.beq (valL 1000000 y.l - valL 1000000 x.l).toNat 0 = false from Bool.eq_false_iff.2 fun e => by rw [Nat.beq_eq] at e; omega]
    cases x.neg <;> cases y.neg <;> simp <;> omega
  | false =>
    have h := c2 (by have : ¬ sgn (cmpL x.l y.l) < 0 := fun e => by rw [(ltB_iff _ _).2 e] at hl; cases hl
                     omega)
    cases hz : Nat.beq (valL 1000000 x.l - valL 1000000 y.l).toNat 0 with
    | true =>
      rw [Nat.beq_eq] at hz
      cases x.neg <;> cases y.neg <;> simp <;> omega
    | false => cases x.neg <;> cases y.neg <;> simp <;> omega
end Go.Te

namespace Go.Te
open Go Go.Sx Go.Proofs Go.Ar
set_option maxRecDepth 100000
set_option maxHeartbeats 4000000
theorem intE_itoa (n : Int) : intE (Lib.itoa n) = resE n := by
  obtain ⟨h1, h2⟩ := itoa_intB n
  have h3 := lenD_eq h1
  rw [h2] at h3
  unfold intE resE
  rw [h1, h3]
  rfl
theorem sv6_nat (n : Bool) (k : Nat) : sv6 n (limbs 1000000 k) = bif n then -(k : Int) else k := by unfold sv6; rw [vL]
theorem sv6_read {a : Str} (h : intB a = true) : sv6 (a.getD 0 0 == 45) (limbs 1000000 (valI a).natAbs) = valI a := by
  rw [sv6_nat]; exact sval_bif h
theorem sv6_neg {b : Str} (h : intB b = true) : sv6 (bif Nat.beq (limbs 1000000 (valI b).natAbs).length 0 then b.getD 0 0 == 45 else !(b.getD 0 0 == 45)) (limbs 1000000 (valI b).natAbs) = - valI b := by
  have hb := sv6_read h
  rw [sv6_nat] at hb ⊢
  cases hz : Nat.beq (limbs 1000000 (valI b).natAbs).length 0 with
  | true =>
    rw [Nat.beq_eq] at hz
    have := limbs_nil (b := 1000000) (by omega) hz
    rw [this]
    simp only [cond_true]
    cases b.getD 0 0 == 45 <;> simp <;> omega
  | false =>
    simp only [cond_false]
    generalize (b.getD 0 0 == 45) = m at *
    cases m <;> simp at hb ⊢ <;> omega
theorem sv6_z (s : Bool) (P : Nat) : sv6 (bif Nat.beq P 0 then false else s) (limbs 1000000 P) = bif s then -(P : Int) else P := by
  rw [sv6_nat]
  cases hz : Nat.beq P 0 with
  | true => rw [Nat.beq_eq] at hz; rw [hz]; cases s <;> rfl
  | false => rfl
theorem lim6N {n k : Nat} (h : n < 10 ^ k) : (limbs 1000000 n).length ≤ k := by
  refine limbs_len_le (b := 1000000) (by omega) ?_
  have h2 : 10 ^ k ≤ 1000000 ^ k := Nat.pow_le_pow_left (by omega) _
  exact_mod_cast Nat.lt_of_lt_of_le h h2
theorem limN6 (n : Nat) : InL 1000000 (limbs 1000000 n) ∧ trimL (limbs 1000000 n) = limbs 1000000 n := ⟨limbs_in (b := 1000000) (by omega) n, trim_limbs (b := 1000000) (by omega) n⟩
theorem lenI6 {l : List Int} (hx : InL 1000000 l) (hl : l.length ≤ 100000000) (n : Bool) : (Lib.itoa (bif n then - valL 1000000 l else valL 1000000 l)).length ≤ 4294967280 := by
  have v0 := valL_nonneg (b := 1000000) (by omega) hx
  have v1 := valL_lt (b := 1000000) (by omega) hx
  have h1 : nDg (bif n then - valL 1000000 l else valL 1000000 l) ≤ 6 * l.length + 1 := by
    refine nDg_le (by omega) ?_
    have e : (bif n then - valL 1000000 l else valL 1000000 l).natAbs = (valL 1000000 l).toNat := by cases n <;> simp <;> omega
    rw [e]
    have h2 : (valL 1000000 l).toNat < 1000000 ^ l.length := by
      have : ((valL 1000000 l).toNat : Int) < ((1000000 ^ l.length : Nat) : Int) := by rw [Int.toNat_of_nonneg v0, Int.natCast_pow]; exact v1
      omega
    have h3 : (1000000 : Nat) ^ l.length = 10 ^ (6 * l.length) := by rw [Nat.pow_mul]
    have h4 : 10 ^ (6 * l.length) ≤ 10 ^ (6 * l.length + 1) := Nat.pow_le_pow_right (by omega) (by omega)
    omega
  rw [itoa_len]
  split <;> omega
def r1res_t : List AV → Option (List Cond × AV)
  | [x_x] => some ([.b (agOk Big x_x), .p (InL 1000000 (agD (α := Big) x_x).l), .p (trimL (agD (α := Big) x_x).l = (agD (α := Big) x_x).l), .p ((agD (α := Big) x_x).l.length ≤ 100000000), .p ((agD (α := Big) x_x).neg = true → (agD (α := Big) x_x).l.length ≠ 0)], .tup 2 (listFn [.str (resS (sv6 (agD (α := Big) x_x).neg (agD (α := Big) x_x).l)), .i (resE (sv6 (agD (α := Big) x_x).neg (agD (α := Big) x_x).l))]))
  | _ => none
theorem r1res_vc (x : Big) (hx : InL 1000000 x.l) (ht : trimL x.l = x.l) (hl : x.l.length ≤ 100000000) (h0 : x.neg = true → x.l.length ≠ 0) :
 let q1 := (AV.agg 2 fun (i : Nat) => Enc.enc x (0 + i)); let q3 := (agD q1); let q2 := (Big.l q3); let q5 := (bif Big.neg q3 then -valL (1000000 : Int) q2 else valL (1000000 : Int) q2); let q4 := (Lib.itoa q5); bndL [AV.agg 2 (Enc.enc x)] → bsplit (agOk Big q1) ((∀ (x_1 : Int), List.Mem x_1 q2 → (0 : Int) ≤ x_1 ∧ x_1 < (1000000 : Int)) ∧ trimL q2 = Big.l q3 ∧ List.length q2 ≤ 100000000 ∧ (Big.neg q3 = true → List.length q2 ≠ 0) ∧ List.length q4 ≤ 4294967280 ∧ bsplit (intE q4 != (0 : Int)) (2 = List.length [AV.junk, AV.junk] ∧ (True ∧ Array.toList (ByteArray.data (ByteArray.mk #[])) = resS (sv6
 (Big.neg x) (Big.l x))) ∧ IntKind.i64 = .i64 ∧ (4 : Int) = resE (sv6 (Big.neg x) (Big.l x))) (2 = List.length [AV.junk, AV.junk] ∧ (True ∧ Lib.itoa q5 = resS (sv6 (Big.neg x) (Big.l x))) ∧ IntKind.i64 = .i64 ∧ (0 : Int) = resE (sv6 (Big.neg x) (Big.l x)))) False := by
  dsimp only
  intro hb
  have e0 : (Enc.dflt : Int) = 0 := rfl
  simp only [↓vc_db, ↓vc_gdb, row_one]
  simp only [sS, dS, e0, agD_bigE, agOk_bigE, vc_tt, intE_itoa]
  unfold sv6
  refine ⟨hx, ht, hl, h0, lenI6 hx hl _, fun h => ?_, fun h => ?_⟩
  · generalize (bif x.neg then - valL 1000000 x.l else valL 1000000 x.l) = v at *
    have e : resE v = 4 := by
      unfold resE at h ⊢
      cases hb : Nat.blt 300 (nDg v) with
      | true => rfl
      | false => rw [hb] at h; exact absurd rfl h
    refine ⟨rfl, ?_, e.symm⟩
    unfold resS
    rw [e]
    rfl
  · refine ⟨rfl, ?_, h.symm⟩
    unfold resS
    rw [h]
    rfl
theorem r1res_C (x : Big) (hx : InL 1000000 x.l) (ht : trimL x.l = x.l) (hl : x.l.length ≤ 100000000) (h0 : x.neg = true → x.l.length ≠ 0) : PureCall Tryz.prog [] 160 [agE x] (.tup 2 (listFn [.str (resS (sv6 x.neg x.l)), .i (resE (sv6 x.neg x.l))])) :=
  pure_of_vc (T := (T0.plus 106 r1write_t).plus 152 r1check_t) (an := .auto) mixed (TbSound.plus (TbSound.plus tb0_sound r1write_T) r1check_T) (Eq.mp (by kernel_rfl) (r1res_vc x hx ht hl h0))
theorem r1res_T : PureT Tryz.prog [] 160 r1res_t := by
  intro xs ps r h hp
  unfold r1res_t at h
  split at h
  · skip
    rename_i x_x
    cases h
    obtain ⟨q0, q1, q2, q3, q4, -⟩ := allC hp
    exact weaken (ys := [agE (agD (α := Big) x_x)]) ⟨agE_sound q0, trivial⟩ (r1res_C (agD (α := Big) x_x) q1 q2 q3 q4)
  · cases h
noncomputable def T1m (G : List (Nat × Obj)) : Tb := (((((((TIt G).plus 102 r1both_t).plus 103 r1two_t).plus 104 r1read_t).plus 161 r1mul_t).plus 108 r1add_t).plus 109 r1neg_t).plus 160 r1res_t
theorem T1m_sound {G : List (Nat × Obj)} (hG : TabIn G) : TbSound Tryz.prog (T1m G) :=
  TbSound.plus (TbSound.plus (TbSound.plus (TbSound.plus (TbSound.plus (TbSound.plus (TbSound.plus (TIt_sound hG) (PureT.mono r1both_T)) (PureT.mono r1two_T)) (PureT.mono r1read_T)) (PureT.mono r1mul_T)) (PureT.mono r1add_T)) (PureT.mono r1neg_T)) (PureT.mono r1res_T)
def r1Mul_t : List AV → Option (List Cond × AV)
  | [.str a, .str b] => some ([.p (a.length ≤ 100000000), .p (b.length ≤ 100000000)], .tup 2 (listFn [.str (opS (· * ·) a b), .i (opE (· * ·) a b)]))
  | _ => none
theorem r1Mul_vc (G : List (Nat × Obj)) (a : List UInt8) (b : List UInt8) (hla : a.length ≤ 100000000) (hlb : b.length ≤ 100000000) :
 let q2 := (leB (↑(List.length a) : Int) (17 : Int) && leB (↑(List.length b) : Int) (17 : Int)); let q1 := (!bsel true q2 || bsel true q2); let q3 := ((↑(List.length a) : Int) + (↑(List.length b) : Int)); let q5 := (bif leB (↑(List.length a) : Int) (17 : Int) then valI a else (0 : Int)); let q4 := (q5 * bif leB (↑(List.length a) : Int) (17 : Int) && leB (↑(List.length b) : Int) (17 : Int) then valI b else (0 : Int)); let q6 := (AV.agg 2 fun i => Option.getD [AV.v (Value.bool (List.getD a 0 (0 : UInt8) == (45 : UInt8))), AV.xl false 1 (List.length (limbs 1000000 (Int.natAbs (valI a)))) fun i j =>
 AV.v (Value.int .i64 (List.getD (limbs 1000000 (Int.natAbs (valI a))) i Enc.dflt))][i]? AV.junk); let q7 := (AV.agg 2 fun i => Option.getD [AV.v (Value.bool (List.getD b 0 (0 : UInt8) == (45 : UInt8))), AV.xl false 1 (List.length (limbs 1000000 (Int.natAbs (valI b)))) fun i j => AV.v (Value.int .i64 (List.getD (limbs 1000000 (Int.natAbs (valI b))) i Enc.dflt))][i]? AV.junk); let q9 := (agD q6); let q8 := (Big.l q9); let q11 := (agD q7); let q10 := (Big.l q11); let q13 := (Int.toNat (valL (1000000 : Int) q8 * valL (1000000 : Int) q10)); let q14 := (limbs 1000000 q13); let q12 := (AV.agg 2 fun i
 => Option.getD [AV.v (Value.bool (bif Nat.beq q13 0 then false else !Big.neg q9 == Big.neg q11)), AV.xl false 1 (List.length q14) fun i j => AV.v (Value.int .i64 (List.getD q14 i Enc.dflt))][i]? AV.junk); let q16 := (agD q12); let q15 := (Big.l q16); let q17 := (sv6 (Big.neg q16) q15); bndL [AV.str a, AV.str b] → List.length a ≤ 4294967280 ∧ List.length b ≤ 4294967280 ∧ bsplit (bothE a b != (0 : Int)) (2 = List.length [AV.junk, AV.junk] ∧ (True ∧ Array.toList (ByteArray.data (ByteArray.mk #[])) = opS (fun (x1 x2 : Int) => x1 * x2) a b) ∧ IntKind.i64 = .i64 ∧ bothE a b = opE (fun (x1 x2 : Int)
 => x1 * x2) a b) (intB a = true ∧ List.length a ≤ 4294967280 ∧ intB b = true ∧ List.length b ≤ 4294967280 ∧ bsplit q1 (bsplit q1 (bsplit q1 (bsplit q1 (bsplit (!bsel true q2 || DB.db (inK .i64 q3)) (bsplit q1 (bsplit (!q2 || bsel true q2) (bsplit (bif leB (↑(List.length a) : Int) (17 : Int) && leB (↑(List.length b) : Int) (17 : Int) then leB q3 (18 : Int) else false) (bsplit (DB.db (inK .i64 q4)) ((((-9223372036854775808 : Int) ≤ q5 * bif leB (↑(List.length a) : Int) (17 : Int) && leB (↑(List.length b) : Int) (17 : Int) then valI b else (0 : Int)) ∧ q4 ≤ (9223372036854775807 : Int)) ∧ 2 =
 List.length [AV.junk, AV.junk] ∧ (True ∧ Lib.itoa q4 = opS (fun (x1 x2 : Int) => x1 * x2) a b) ∧ IntKind.i64 = .i64 ∧ (0 : Int) = opE (fun (x1 x2 : Int) => x1 * x2) a b) False) (intB a = true ∧ List.length a ≤ 4294967280 ∧ intB b = true ∧ List.length b ≤ 4294967280 ∧ bsplit (agOk Big q6) (bsplit (agOk Big q7) ((∀ (x : Int), List.Mem x q8 → (0 : Int) ≤ x ∧ x < (1000000 : Int)) ∧ (∀ (x : Int), List.Mem x q10 → (0 : Int) ≤ x ∧ x < (1000000 : Int)) ∧ List.length q8 ≤ 1000000000 ∧ List.length q10 ≤ 1000000000 ∧ bsplit (agOk Big q12) ((∀ (x : Int), List.Mem x q15 → (0 : Int) ≤ x ∧ x < (1000000 :
 Int)) ∧ trimL q15 = Big.l q16 ∧ List.length q15 ≤ 100000000 ∧ (Big.neg q16 = true → List.length q15 ≠ 0) ∧ 2 = List.length [AV.junk, AV.junk] ∧ (True ∧ resS q17 = opS (fun (x1 x2 : Int) => x1 * x2) a b) ∧ IntKind.i64 = .i64 ∧ resE q17 = opE (fun (x1 x2 : Int) => x1 * x2) a b) False) False) False)) False) False) False) False) False) False) False) := by
  dsimp only
  intro hb
  have e0 : (Enc.dflt : Int) = 0 := rfl
  simp only [↓vc_db, ↓vc_gdb, row_one]
  simp only [sS, dS, e0, agD_big', agOk_big', agD_big, agOk_big, agD_neg, agOk_neg, agD_box, agOk_box, vc_tt]
  simp only [vL]
  refine ⟨by omega, by omega, fun hE => ⟨rfl, (op_ne hE).1.symm, (op_ne hE).2.symm⟩, fun hE => ?_⟩
  obtain ⟨hA, hB⟩ := bothE_zero hE
  obtain ⟨a1, a2, a3⟩ := big_a hA
  obtain ⟨b1, b2, b3⟩ := big_a hB
  have hP : (((valI a).natAbs : Int) * ((valI b).natAbs : Int)).toNat = (valI a).natAbs * (valI b).natAbs := by rw [← Int.natCast_mul]; rfl
  have hl : (limbs 1000000 ((valI a).natAbs * (valI b).natAbs)).length ≤ 602 := by
    refine lim6N ?_
    rw [show 10 ^ 602 = 10 ^ 301 * 10 ^ 301 from pw_two 301 602 rfl]
    have hm := Nat.mul_lt_mul'' a1 b1
    exact hm
  have la := lim6N a1
  have lb := lim6N b1
  have hv : sv6 (bif Nat.beq ((valI a).natAbs * (valI b).natAbs) 0 then false else !((a.getD 0 0 == 45) == (b.getD 0 0 == 45))) (limbs 1000000 ((valI a).natAbs * (valI b).natAbs)) = valI a * valI b := by
    have h1 := sv6_read a3
    have h2 := sv6_read b3
    rw [sv6_nat] at h1 h2
    rw [sv6_z, Int.natCast_mul, bif_key, h1, h2]
  rw [hP, (op_eq hE).1, (op_eq hE).2, hv]
  refine ⟨a3, by omega, b3, by omega, fun _ => ⟨by omega, by omega⟩, bsplit_iff.2 ⟨fun c => ?_, fun c => ?_⟩⟩
  · rw [Bool.and_eq_true, Bool.and_eq_true] at c
    rw [c.1.1, c.1.2]
    simp only [cond_true, Bool.and_self]
    have h18 := (leB_iff _ _).1 c.2
    have hm : (valI a * valI b).natAbs < 10 ^ 18 := by
      rw [Int.natAbs_mul]
      have h1 := Nat.mul_lt_mul'' (natV a3) (natV b3)
      rw [← Nat.pow_add] at h1
      exact Nat.lt_of_lt_of_le h1 (Nat.pow_le_pow_right (by omega) (by omega))
    obtain ⟨r1, r2⟩ := res_small (n := valI a * valI b) (k := 18) (by omega) (by omega) hm
    rw [show 10 ^ 18 = 1000000000000000000 from by decide] at hm
    exact ⟨⟨by omega, by omega⟩, ⟨by omega, by omega⟩, rfl, r1.symm, r2.symm⟩
  · refine ⟨a3, by omega, b3, by omega, (limN6 _).1, (limN6 _).1, by omega, by omega, (limN6 _).1, (limN6 _).2, by omega, fun h e => ?_, rfl, rfl, rfl⟩
    have := limbs_nil (b := 1000000) (by omega) e
    rw [this] at h
    cases h
theorem r1Mul_C {G : List (Nat × Obj)} (hG : TabIn G) (a : List UInt8) (b : List UInt8) (hla : a.length ≤ 100000000) (hlb : b.length ≤ 100000000) : PureCall Tryz.prog G 107 [.str a, .str b] (.tup 2 (listFn [.str (opS (· * ·) a b), .i (opE (· * ·) a b)])) :=
  pure_of_vc (T := T1m G) (an := .auto) mixed (T1m_sound hG) (Eq.mp (by kernel_rfl) (r1Mul_vc G a b hla hlb))
theorem r1Mul_T {G : List (Nat × Obj)} (hG : TabIn G) : PureT Tryz.prog G 107 r1Mul_t := by
  intro xs ps r h hp
  unfold r1Mul_t at h
  split at h
  · skip
    rename_i a b
    cases h
    obtain ⟨q0, q1, -⟩ := allC hp
    exact weaken (ys := [.str a, .str b]) ⟨avM_refl _, avM_refl _, trivial⟩ (r1Mul_C hG a b q0 q1)
  · cases h
def r1Cmp_t : List AV → Option (List Cond × AV)
  | [.str a, .str b] => some ([.p (a.length ≤ 100000000), .p (b.length ≤ 100000000)], .tup 2 (listFn [.i (cmpV a b), .i (bothE a b)]))
  | _ => none
theorem r1Cmp_vc (G : List (Nat × Obj)) (a : List UInt8) (b : List UInt8) (hla : a.length ≤ 100000000) (hlb : b.length ≤ 100000000) :
 let q1 := (True ∧ IntKind.i64 = .i64 ∧ (0 : Int) = cmpV a b); let q2 := (bif leB (↑(List.length a) : Int) (17 : Int) then valI a else (0 : Int)); let q3 := (bif leB (↑(List.length a) : Int) (17 : Int) && leB (↑(List.length b) : Int) (17 : Int) then valI b else (0 : Int)); let q4 := (2 = List.length [AV.junk, AV.junk] ∧ (True ∧ IntKind.i64 = .i64 ∧ (-1 : Int) = cmpV a b) ∧ IntKind.i64 = .i64 ∧ (0 : Int) = bothE a b); let q5 := (2 = List.length [AV.junk, AV.junk] ∧ (True ∧ IntKind.i64 = .i64 ∧ (1 : Int) = cmpV a b) ∧ IntKind.i64 = .i64 ∧ (0 : Int) = bothE a b); let q6 := (2 = List.length
 [AV.junk, AV.junk] ∧ q1 ∧ IntKind.i64 = .i64 ∧ (0 : Int) = bothE a b); let q7 := (AV.agg 2 fun i => Option.getD [AV.v (Value.bool (List.getD b 0 (0 : UInt8) == (45 : UInt8))), AV.xl false 1 (List.length (limbs 1000000 (Int.natAbs (valI b)))) fun i j => AV.v (Value.int .i64 (List.getD (limbs 1000000 (Int.natAbs (valI b))) i Enc.dflt))][i]? AV.junk); let q8 := (AV.agg 2 fun i => Option.getD [AV.v (Value.bool (List.getD a 0 (0 : UInt8) == (45 : UInt8))), AV.xl false 1 (List.length (limbs 1000000 (Int.natAbs (valI a)))) fun i j => AV.v (Value.int .i64 (List.getD (limbs 1000000 (Int.natAbs (valI
 a))) i Enc.dflt))][i]? AV.junk); let q12 := (agD q7); let q11 := (Big.l q12); let q10 := (List.length q11); let q9 := (AV.agg 2 fun i => Option.getD [AV.v (Value.bool (bif Nat.beq q10 0 then Big.neg q12 else !Big.neg q12)), AV.xl false 1 q10 fun i j => AV.v (Value.int .i64 (List.getD q11 i Enc.dflt))][i]? AV.junk); let q14 := (agD q8); let q13 := (Big.l q14); let q16 := (agD q9); let q15 := (Big.l q16); bndL [AV.str a, AV.str b] → List.length a ≤ 4294967280 ∧ List.length b ≤ 4294967280 ∧ bsplit (bothE a b != (0 : Int)) (2 = List.length [AV.junk, AV.junk] ∧ q1 ∧ IntKind.i64 = .i64 ∧ bothE a b =
 bothE a b) (intB a = true ∧ List.length a ≤ 4294967280 ∧ intB b = true ∧ List.length b ≤ 4294967280 ∧ bsplit (leB (↑(List.length a) : Int) (17 : Int) && leB (↑(List.length b) : Int) (17 : Int)) (bsplit (ltB q2 q3) q4 (bsplit (ltB q3 q2) q5 q6)) (intB a = true ∧ List.length a ≤ 4294967280 ∧ intB b = true ∧ List.length b ≤ 4294967280 ∧ bsplit (agOk Big q7) (bsplit (agOk Big q8) (bsplit (agOk Big q9) ((∀ (x : Int), List.Mem x q13 → (0 : Int) ≤ x ∧ x < (1000000 : Int)) ∧ (∀ (x : Int), List.Mem x q15 → (0 : Int) ≤ x ∧ x < (1000000 : Int)) ∧ trimL q13 = Big.l q14 ∧ trimL q15 = Big.l q16 ∧ List.length
 q13 ≤ 1000000000 ∧ List.length q15 ≤ 1000000000 ∧ bsplit ((↑(List.length (limbs 1000000 (Int.toNat (aV6 q14 q16)))) : Int) == (0 : Int)) q6 (bsplit (aN6 q14 q16) q4 q5)) False) False) False)) := by
  dsimp only
  intro hb
  have e0 : (Enc.dflt : Int) = 0 := rfl
  simp only [↓vc_db, ↓vc_gdb, row_one]
  simp only [sS, dS, e0, agD_big', agOk_big', agD_big, agOk_big, agD_neg, agOk_neg, agD_box, agOk_box, vc_tt]
  have hV : bothE a b = 0 → cmpV a b = cmpI (valI a) (valI b) := fun h => by unfold cmpV; rw [h]; rfl
  refine ⟨by omega, by omega, fun hE => ⟨rfl, ?_⟩, fun hE => ?_⟩
  · unfold cmpV; rw [bne_iff_ne.2 hE]; rfl
  obtain ⟨hA, hB⟩ := bothE_zero hE
  obtain ⟨a1, a2, a3⟩ := big_a hA
  obtain ⟨b1, b2, b3⟩ := big_a hB
  rw [hV hE, hE]
  refine ⟨a3, by omega, b3, by omega, bsplit_iff.2 ⟨fun c => ?_, fun c => ?_⟩⟩
  · rw [Bool.and_eq_true] at c
    rw [c.1, c.2]
    simp only [cond_true, Bool.and_self]
    unfold cmpI
    refine ⟨fun h => ?_, fun h => ⟨fun h2 => ?_, fun h2 => ?_⟩⟩
    · rw [(ltB_iff _ _).2 h]; exact ⟨rfl, rfl, trivial⟩
    · rw [show ltB (valI a) (valI b) = false from Bool.eq_false_iff.2 fun e => by have := (ltB_iff _ _).1 e; omega, beq_eq_false_iff_ne.2 (by omega)]; exact ⟨rfl, rfl, trivial⟩
    · rw [show valI a = valI b by omega, show ltB (valI b) (valI b) = false from Bool.eq_false_iff.2 fun e => by have := (ltB_iff _ _).1 e; omega, beq_self_eq_true]; exact ⟨rfl, rfl, trivial⟩
  · have hs := sv6_neg b3
    generalize (bif Nat.beq (limbs 1000000 (valI b).natAbs).length 0 then b.getD 0 0 == 45 else !(b.getD 0 0 == 45)) = nb at *
    obtain ⟨q3, q1⟩ := sv_add (x := ⟨a.getD 0 0 == 45, limbs 1000000 (valI a).natAbs⟩) (y := ⟨nb, limbs 1000000 (valI b).natAbs⟩) (limN6 _).1 (limN6 _).1 (limN6 _).2 (limN6 _).2
    simp only [hs, sv6_read a3] at q1
    have la := lim6N a1
    have lb := lim6N b1
    refine ⟨a3, by omega, b3, by omega, (limN6 _).1, (limN6 _).1, (limN6 _).2, (limN6 _).2, by omega, by omega, fun h0 => ?_, fun h0 => bsplit_iff.2 ⟨fun hn => ?_, fun hn => ?_⟩⟩
    all_goals
      generalize aV6 ⟨a.getD 0 0 == 45, limbs 1000000 (valI a).natAbs⟩ ⟨nb, limbs 1000000 (valI b).natAbs⟩ = v at *
      generalize aN6 ⟨a.getD 0 0 == 45, limbs 1000000 (valI a).natAbs⟩ ⟨nb, limbs 1000000 (valI b).natAbs⟩ = n at *
    · have h1 := limbs_nil (b := 1000000) (n := v.toNat) (by omega) (by omega)
      have : valI a = valI b := by cases n <;> simp at q1 <;> omega
      unfold cmpI
      rw [this, show ltB (valI b) (valI b) = false from Bool.eq_false_iff.2 fun e => by have := (ltB_iff _ _).1 e; omega, beq_self_eq_true]
      exact ⟨rfl, rfl, rfl⟩
    all_goals
      have h1 : v.toNat ≠ 0 := fun e => h0 (by rw [e, limbs_zero]; rfl)
      rw [hn] at q1
      unfold cmpI
    · rw [cond_true] at q1
      rw [(ltB_iff _ _).2 (show valI a < valI b by omega)]
      exact ⟨rfl, rfl, rfl⟩
    · rw [cond_false] at q1
      rw [show ltB (valI a) (valI b) = false from Bool.eq_false_iff.2 fun e => by have := (ltB_iff _ _).1 e; omega, beq_eq_false_iff_ne.2 (show valI a ≠ valI b by omega)]
      exact ⟨rfl, rfl, rfl⟩
theorem r1Cmp_C {G : List (Nat × Obj)} (hG : TabIn G) (a : List UInt8) (b : List UInt8) (hla : a.length ≤ 100000000) (hlb : b.length ≤ 100000000) : PureCall Tryz.prog G 54 [.str a, .str b] (.tup 2 (listFn [.i (cmpV a b), .i (bothE a b)])) :=
  pure_of_vc (T := T1m G) (an := .auto) mixed (T1m_sound hG) (Eq.mp (by kernel_rfl) (r1Cmp_vc G a b hla hlb))
theorem r1Cmp_T {G : List (Nat × Obj)} (hG : TabIn G) : PureT Tryz.prog G 54 r1Cmp_t := by
  intro xs ps r h hp
  unfold r1Cmp_t at h
  split at h
  · skip
    rename_i a b
    cases h
    obtain ⟨q0, q1, -⟩ := allC hp
    exact weaken (ys := [.str a, .str b]) ⟨avM_refl _, avM_refl _, trivial⟩ (r1Cmp_C hG a b q0 q1)
  · cases h
end Go.Te
