/- rational: digits, cut. -/
import Derived.Test.YtdkpceodckdcfaaGreatDoorTeL
import Derived.Test.YtdkpceodckdcfaaGreatDoorTeJ
import Derived.Test.YtdkpceodckdcfaaGreatDoorTeIi
import Derived.ChangeArms
import Derived.Lib.LaidTab
set_option linter.unusedSimpArgs false
set_option linter.unusedVariables false
namespace Go.Te
open Go Go.Sx Go.Proofs Go.Ar
set_option maxRecDepth 100000
set_option maxHeartbeats 4000000
def dgN (s : Str) : Int := bif Nat.blt 1 (twD s).length && s.getD 0 0 == 48 then 0 else ((twD s).length : Int)
theorem ix_spec (c : UInt8) : ∀ s : Str, (0 ≤ Lib.indexByte s c → ∃ z : Nat, Lib.indexByte s c = z ∧ z < s.length ∧ (∀ i, i < z → s.getD i 0 ≠ c) ∧ s.getD z 0 = c) ∧ (Lib.indexByte s c < 0 → ∀ i, i < s.length → s.getD i 0 ≠ c)
  | [] => ⟨fun h => by simp [Lib.indexByte] at h, fun _ i hi => absurd hi (Nat.not_lt_zero _)⟩
  | x :: s => by
    obtain ⟨h1, h2⟩ := ix_spec c s
    unfold Lib.indexByte
    have ge := Lib.indexByte_ge s c
    by_cases hx : x = c
    · subst hx
      simp only [if_true, beq_self_eq_true, ↓reduceIte]
      exact ⟨fun _ => ⟨0, rfl, by simp, fun i hi => absurd hi (Nat.not_lt_zero _), rfl⟩, fun h => absurd h (by decide)⟩
    · have hx' : (x == c) = false := beq_eq_false_iff_ne.2 hx
      simp only [hx', hx, if_false, Bool.false_eq_true, ↓reduceIte]
      refine ⟨fun h => ?_, fun h => ?_⟩
      · split at h
        · exact absurd h (by decide)
        · rename_i hn
          have hne : Lib.indexByte s c ≠ -1 := by simpa using hn
          obtain ⟨z, e, h3, h4, h5⟩ := h1 (by omega)
          refine ⟨z + 1, ?_, by simp; omega, fun i hi => ?_, h5⟩
          · rw [if_neg hn, e]; omega
          · match i with
            | 0 => exact hx
            | i + 1 => exact h4 i (by omega)
      · split at h
        · rename_i hn
          intro i hi
          match i with
          | 0 => exact hx
          | i + 1 =>
            have heq : Lib.indexByte s c = -1 := by simpa using hn
            exact h2 (by omega) i (by simpa using hi)
        · rename_i hn
          have hne : Lib.indexByte s c ≠ -1 := by simpa using hn
          omega
theorem dgN_digs (s : Str) : (dgN s == 0 || ltB (dgN s) (s.length : Int)) = !digS s := by
  have hsp := congrArg List.length (tw_split s)
  rw [List.length_append, List.length_drop] at hsp
  cases hd : digS s with
  | true =>
    obtain ⟨d1, d2, d3⟩ := digS_iff.1 hd
    have ht := tw_digs hd
    have e : dgN s = (s.length : Int) := by
      unfold dgN
      rw [ht]
      cases hb : Nat.blt 1 s.length with
      | false => rfl
      | true =>
        rw [beq_eq_false_iff_ne.2 (d3 ((blt_iff _ _).1 hb))]
        rfl
    rw [e, beq_eq_false_iff_ne.2 (by omega), show ltB (s.length : Int) (s.length : Int) = false from Bool.eq_false_iff.2 fun e => by have := (ltB_iff _ _).1 e; omega]
    rfl
  | false =>
    show _ = true
    unfold dgN
    cases hb : Nat.blt 1 (twD s).length && s.getD 0 0 == 48 with
    | true => rfl
    | false =>
      simp only [cond_false]
      by_cases h0 : (twD s).length = 0
      · rw [h0]; rfl
      by_cases hl : (twD s).length < s.length
      · rw [(ltB_iff _ _).2 (by omega), Bool.or_true]
      refine absurd hd ?_
      have ht : twD s = s := by
        have := tw_split s
        rw [List.drop_of_length_le (by omega), List.append_nil] at this
        exact this
      rw [ht] at hb h0
      have : digS s = true := digS_iff.2 ⟨by omega, fun c hc => tw_all s c (by rw [ht]; exact hc), fun h1 e => by
        rw [(blt_iff _ _).2 h1, e] at hb
        cases hb⟩
      rw [this]
      decide
def rdig_an (s : Str) : Ann :=
  .two .auto (.two .auto (.two (.one (.loop Nat (fun σ z => [(0, σ.tm 0), (3, .i (z : Int))]) (fun σ z => []) 0 (fun σ z => z ≤ s.length ∧ ∀ i, i < z → isDg (s.getD i 0) = true) (fun σ z => s.length - z) .auto)) .auto))
def rdig_t : List AV → Option (List Cond × AV)
  | [.str s] => some ([.p (s.length ≤ 4294967280)], .i (dgN s))
  | _ => none
theorem rdig_vc (s : List UInt8) (hl : s.length ≤ 4294967280) :
 bndL [AV.str s] → (∃ (z : Nat), ((z ≤ List.length s ∧ ∀ (i : Nat), i < z → isDg (List.getD s i (0 : UInt8)) = true) ∧ s = s ∧ IntKind.i64 = .i64 ∧ (0 : Int) = (↑z : Int)) ∧ True) ∧ ∀ (z : Nat), let q2 := (ltB (↑z : Int) (↑(List.length s) : Int)); let q1 := (!bsel true q2 || bsel true q2); let q3 := ((0 : Int) ≤ (↑z : Int) ∧ (↑z : Int) < (↑(List.length s) : Int)); let q6 := (↑(UInt8.toNat (List.getD s (Int.toNat (↑z : Int)) (0 : UInt8))) : Int); let q5 := (bif ltB (↑z : Int) (↑(List.length s) : Int) then leB (48 : Int) q6 else false); let q4 := (!bsel true q5 || bsel true q5); let q7 := (!bsel
 true (ltB (1 : Int) (↑z : Int)) || bsel true (ltB (1 : Int) (↑z : Int))); (z ≤ List.length s ∧ ∀ (i : Nat), i < z → isDg (List.getD s i (0 : UInt8)) = true) → bsplit q1 (bsplit q1 (bsplit (!bsel true q2 || DB.db q3) (bsplit q1 (bsplit (!ltB (↑z : Int) (↑(List.length s) : Int) || bsel true q2) (bsplit q4 (bsplit q4 (bsplit (!bsel true q5 || DB.db q3) (bsplit q4 (bsplit ((!bif ltB (↑z : Int) (↑(List.length s) : Int) then leB (48 : Int) q6 else false) || bsel true q5) (bsplit (bif bif ltB (↑z : Int) (↑(List.length s) : Int) then leB (48 : Int) q6 else false then leB q6 (57 : Int) else false)
 (bsplit (DB.db (inK .i64 ((↑z : Int) + (1 : Int)))) (∃ (z' : Nat), (((z' ≤ List.length s ∧ ∀ (i : Nat), i < z' → isDg (List.getD s i (0 : UInt8)) = true) ∧ List.length s - z' < List.length s - z) ∧ s = s ∧ IntKind.i64 = .i64 ∧ (↑z : Int) + (1 : Int) = (↑z' : Int)) ∧ True) False) (bsplit q7 (bsplit (!bsel true (ltB (1 : Int) (↑z : Int)) || DB.db ((0 : Int) ≤ (0 : Int) ∧ (0 : Int) < (↑(List.length s) : Int))) (bsplit q7 (bsplit (!ltB (1 : Int) (↑z : Int) || bsel true (ltB (1 : Int) (↑z : Int))) (bsplit (bif ltB (1 : Int) (↑z : Int) then (↑(UInt8.toNat (List.getD s 0 (0 : UInt8))) : Int) == (48 :
 Int) else false) (IntKind.i64 = .i64 ∧ (0 : Int) = dgN s) (IntKind.i64 = .i64 ∧ (↑z : Int) = dgN s)) False) False) False) False)) False) False) False) False) False) False) False) False) False) False := by
  dsimp only
  intro hb
  simp only [sS, dS, ltB_nat]
  have dg2 : ∀ c : UInt8, (leB 48 (c.toNat : Int) && leB (c.toNat : Int) 57) = isDg c := fun c => by rw [Bool.eq_iff_iff, Bool.and_eq_true, leB_iff, leB_iff, isDg_iff]; omega
  simp only [Bool.and_assoc, dg2]
  refine ⟨⟨0, ⟨Nat.zero_le _, fun i hi => absurd hi (Nat.not_lt_zero _)⟩, rfl⟩, fun z ⟨z1, z3⟩ => ⟨fun h => ?_, fun h => ?_, bsplit_iff.2 ⟨fun c => ?_, fun c => ⟨fun h => ?_, ?_⟩⟩⟩⟩
  · have := (ltB_iff _ _).1 h; exact ⟨by omega, by omega⟩
  · rw [Bool.and_eq_true] at h; have := (ltB_iff _ _).1 h.1; exact ⟨by omega, by omega⟩
  · rw [Bool.and_eq_true] at c
    have c1 := (ltB_iff _ _).1 c.1
    refine ⟨⟨by omega, by omega⟩, z + 1, ⟨⟨by omega, fun i hi => ?_⟩, by omega⟩, by omega⟩
    by_cases e : i = z
    · rw [e]; exact c.2
    · exact z3 i (by omega)
  · have := (ltB_iff _ _).1 h; exact ⟨by omega, by omega⟩
  · have h3 : z = s.length ∨ isDg (s.getD z 0) = false := by
      by_cases q1 : z = s.length
      · exact .inl q1
      · rw [(ltB_iff _ _).2 (show (z : Int) < (s.length : Int) by omega), Bool.true_and] at c
        exact .inr c
    have ht := tw_take z1 z3 h3
    have hl : (twD s).length = z := by rw [ht, List.length_take]; omega
    have e1 : (ltB 1 (z : Int) && ((s.getD 0 0).toNat : Int) == 48) = (Nat.blt 1 z && s.getD 0 0 == 48) := by
      rw [show (((s.getD 0 0).toNat : Int) == 48) = (s.getD 0 0 == 48) from byte_eq (s.getD 0 0) 48 (by decide), show ltB 1 (z : Int) = Nat.blt 1 z from by rw [Bool.eq_iff_iff, ltB_iff, blt_iff]; omega]
    rw [e1]
    unfold dgN
    rw [hl]
    refine bsplit_iff.2 ⟨fun k => ?_, fun k => ?_⟩
    · rw [k]; rfl
    · rw [k]; rfl
theorem rdig_C (s : List UInt8) (hl : s.length ≤ 4294967280) : PureCall Tryz.prog [] 234 [.str s] (.i (dgN s)) :=
  pure_of_vc (T := T0) (an := rdig_an s) mixed tb0_sound (Eq.mp (by kernel_rfl) (rdig_vc s hl))
theorem rdig_T : PureT Tryz.prog [] 234 rdig_t := by
  intro xs ps r h hp
  unfold rdig_t at h
  split at h
  · skip
    rename_i s
    cases h
    obtain ⟨q0, -⟩ := allC hp
    exact weaken (ys := [.str s]) ⟨avM_refl _, trivial⟩ (rdig_C s q0)
  · cases h
noncomputable def Tcut : Tb := (T0.plus 123 idx1_t).body Tryz.prog [(256, .auto)]
theorem Tcut_sound : TbSound Tryz.prog Tcut := TbSound.body mixed (TbSound.plus tb0_sound idx1_T) _
theorem scut_vc (s : Str) (hl : s.length ≤ 4294967280) :
 bndL [AV.str s, AV.str [(47 : UInt8)]] → bsplit (leB (0 : Int) (Lib.indexByte s (47 : UInt8))) (bsplit (DB.db ((0 : Int) ≤ Lib.indexByte s (47 : UInt8) ∧ Lib.indexByte s (47 : UInt8) ≤ (↑(List.length s) : Int))) (bsplit (DB.db (inK .i64 (Lib.indexByte s (47 : UInt8) + (↑1 : Int)))) (bsplit (DB.db ((0 : Int) ≤ Lib.indexByte s (47 : UInt8) + (↑1 : Int) ∧ Lib.indexByte s (47 : UInt8) + (↑1 : Int) ≤ (↑(List.length s) : Int))) (3 = List.length [AV.junk, AV.junk, AV.junk] ∧ ((True ∧ List.take (Int.toNat (Lib.indexByte s (47 : UInt8))) s = cutN s) ∧ List.drop (Int.toNat (Lib.indexByte s (47 : UInt8) +
 (↑1 : Int))) s = cutD s) ∧ true = slashB s) False) False) False) (3 = List.length [AV.junk, AV.junk, AV.junk] ∧ ((True ∧ s = cutN s) ∧ Array.toList (ByteArray.data (ByteArray.mk #[])) = cutD s) ∧ false = slashB s) := by
  intro hb
  simp only [sS, dS, ltB_nat]
  obtain ⟨h1, h2⟩ := ix_spec 47 s
  refine ⟨fun h => ?_, fun h => ?_⟩
  · obtain ⟨z, e, z1, z2, z3⟩ := h1 h
    obtain ⟨c1, c2, c3⟩ := cut_at z1 z2 z3
    rw [e, c1, c2, c3, show ((z : Int)).toNat = z from rfl, show ((z : Int) + 1).toNat = z + 1 by omega]
    exact ⟨⟨by omega, by omega⟩, ⟨by omega, by omega⟩, ⟨by omega, by omega⟩, rfl, ⟨rfl, rfl⟩, rfl⟩
  · obtain ⟨c1, c2, c3⟩ := cut_no (h2 h)
    rw [c1, c2, c3]
    exact ⟨rfl, ⟨rfl, rfl⟩, rfl⟩
def slash_t : List AV → Option (List Cond × AV)
  | [.str s, .str p] => some ([.b (p == [47]), .p (s.length ≤ 4294967280)], .tup 3 (listFn [.str (cutN s), .str (cutD s), .b (slashB s)]))
  | _ => none
theorem scut_T : PureT Tryz.prog [] 233 slash_t := by
  intro xs ps r h hp
  unfold slash_t at h
  split at h
  · rename_i s p
    cases h
    have q : (p == [47]) = true := hp _ List.mem_cons_self
    have q1 : s.length ≤ 4294967280 := hp _ (List.mem_cons_of_mem _ List.mem_cons_self)
    obtain rfl := eq_of_beq q
    exact pure_of_vc mixed Tcut_sound (Eq.mp (by kernel_rfl) (scut_vc s q1) : vcFn Tryz.prog Tcut 233 (.auto) [.str s, .str [47]] (.tup 3 (listFn [.str (cutN s), .str (cutD s), .b (slashB s)])))
  · cases h
theorem int_form (t : Str) : intB t = (digS (ownS t) && !(minB t && ownS t == [48])) := by
  match t with
  | [] => rfl
  | c :: r =>
    by_cases hc : c = 45
    · subst hc
      rfl
    · have hm : minB (c :: r) = false := beq_eq_false_iff_ne.2 hc
      obtain ⟨h1, _, _⟩ := int_plain (a := c :: r) fun h => hc h.2
      rw [h1, hm, ← ownS_f hm, Bool.false_and, Bool.not_false, Bool.and_true]
noncomputable def Trc : Tb := ((T0.plus 233 slash_t).plus 210 (dash_t fun s => .tup 2 (listFn [.str (ownS s), .b (minB s)]))).plus 234 rdig_t
theorem Trc_sound : TbSound Tryz.prog Trc := TbSound.plus (TbSound.plus (TbSound.plus tb0_sound scut_T) cutP_T) rdig_T
def rcut_t : List AV → Option (List Cond × AV)
  | [.str a] => some ([.p (a.length ≤ 4294967280)], .tup 2 (listFn [.agg 2 (listFn [.str (bif formB a then cutN a else []), .str (bif formB a then (bif slashB a then cutD a else [49]) else [])]), .b (formB a)]))
  | _ => none
theorem rcut_vc (a : List UInt8) (hl : a.length ≤ 4294967280) :
 let q1 := (!bsel false (dgN (ownS (cutN a)) == (0 : Int)) || bsel false (dgN (ownS (cutN a)) == (0 : Int))); let q3 := (bif dgN (ownS (cutN a)) == (0 : Int) then true else ltB (dgN (ownS (cutN a))) (↑(List.length (ownS (cutN a))) : Int)); let q2 := (!bsel false q3 || bsel false q3); let q4 := (ByteArray.data (ByteArray.mk #[(48 : UInt8)])); let q5 := (2 = List.length [AV.junk, AV.junk] ∧ (True ∧ 2 = 2 ∧ (Array.toList (ByteArray.data (ByteArray.mk #[])) = bif formB a then cutN a else []) ∧ Array.toList (ByteArray.data (ByteArray.mk #[])) = bif formB a then bif slashB a then cutD a else [(49 :
 UInt8)] else []) ∧ false = formB a); let q6 := (cutN a = bif formB a then cutN a else []); let q7 := (ByteArray.data (ByteArray.mk #[(49 : UInt8)])); let q8 := (!bsel false (dgN (cutD a) == (0 : Int)) || bsel false (dgN (cutD a) == (0 : Int))); let q9 := (bif dgN (cutD a) == (0 : Int) then true else ltB (dgN (cutD a)) (↑(List.length (cutD a)) : Int)); let q10 := (bif bif dgN (cutD a) == (0 : Int) then true else ltB (dgN (cutD a)) (↑(List.length (cutD a)) : Int) then true else cutD a == Array.toList q4); bndL [AV.str a] → List.length a ≤ 4294967280 ∧ List.length (ownS (cutN a)) ≤ 4294967280 ∧
 bsplit q1 (bsplit q1 (bsplit q1 (bsplit (!!dgN (ownS (cutN a)) == (0 : Int) || bsel false (dgN (ownS (cutN a)) == (0 : Int))) (bsplit q2 (bsplit (!(bsel false q3 && bsel true (minB (cutN a))) || bsel false q3 && bsel true (minB (cutN a))) (bsplit q2 (bsplit (!bsel false q3 || (!minB (cutN a) || bsel false q3 && bsel true (minB (cutN a)))) (bsplit ((!!bif dgN (ownS (cutN a)) == (0 : Int) then true else ltB (dgN (ownS (cutN a))) (↑(List.length (ownS (cutN a))) : Int)) || bsel false q3) (bsplit (bif bif dgN (ownS (cutN a)) == (0 : Int) then true else ltB (dgN (ownS (cutN a))) (↑(List.length (ownS
 (cutN a))) : Int) then true else bif minB (cutN a) then ownS (cutN a) == Array.toList q4 else false) q5 (bsplit (!slashB a) (2 = List.length [AV.junk, AV.junk] ∧ (True ∧ 2 = 2 ∧ q6 ∧ Array.toList q7 = bif formB a then bif slashB a then cutD a else [(49 : UInt8)] else []) ∧ true = formB a) (List.length (cutD a) ≤ 4294967280 ∧ bsplit q8 (bsplit q8 (bsplit q8 (bsplit (!!dgN (cutD a) == (0 : Int) || bsel false (dgN (cutD a) == (0 : Int))) (bsplit (!bsel false q9 || bsel false q9) (bsplit ((!!bif dgN (cutD a) == (0 : Int) then true else ltB (dgN (cutD a)) (↑(List.length (cutD a)) : Int)) || bsel
 false q9) (bsplit (!bsel false q10 || bsel false q10) (bsplit ((!!bif bif dgN (cutD a) == (0 : Int) then true else ltB (dgN (cutD a)) (↑(List.length (cutD a)) : Int) then true else cutD a == Array.toList q4) || bsel false q10) (bsplit (bif bif bif dgN (cutD a) == (0 : Int) then true else ltB (dgN (cutD a)) (↑(List.length (cutD a)) : Int) then true else cutD a == Array.toList q4 then true else cutD a == Array.toList q7) q5 (2 = List.length [AV.junk, AV.junk] ∧ (True ∧ 2 = 2 ∧ q6 ∧ cutD a = bif formB a then bif slashB a then cutD a else [(49 : UInt8)] else []) ∧ true = formB a)) False) False)
 False) False) False) False) False) False))) False) False) False) False) False) False) False) False) False := by
  dsimp only
  intro hb
  simp only [sS, dS, ltB_nat, dgN_digs]
  have hF : formB a = (intB (cutN a) && (!slashB a || digS (cutD a) && !(cutD a == [48]) && !(cutD a == [49]))) := rfl
  rw [int_form] at hF
  have l1 := cutN_len a
  have l2 := cutD_len a
  have l3 := ownS_len (cutN a)
  generalize digS (ownS (cutN a)) = p1 at *
  generalize (minB (cutN a)) = p2 at *
  generalize (ownS (cutN a) == [48]) = p3 at *
  refine ⟨hl, by omega, ?_⟩
  refine bsp_t (by cases p1 <;> cases p2 <;> rfl) ?_
  refine bsplit_iff.2 ⟨fun c => ?_, fun c => bsplit_iff.2 ⟨fun c2 => ?_, fun c2 => ⟨by omega, bsplit_iff.2 ⟨fun c3 => ?_, fun c3 => ?_⟩⟩⟩⟩
  · have e : formB a = false := by
      rw [hF]
      revert c
      cases p1 <;> cases p2 <;> cases p3 <;> simp
    rw [e]
    exact ⟨rfl, ⟨rfl, rfl⟩, rfl⟩
  · have hs : slashB a = false := by simpa using c2
    have e : formB a = true := by
      rw [hF, hs]
      revert c
      cases p1 <;> cases p2 <;> cases p3 <;> simp
    rw [e, hs]
    exact ⟨rfl, ⟨rfl, rfl⟩, rfl⟩
  · have hs : slashB a = true := by simpa using c2
    have e : formB a = false := by
      rw [hF, hs]
      revert c3
      cases digS (cutD a) <;> cases cutD a == [48] <;> cases cutD a == [49] <;> simp
    rw [e]
    exact ⟨rfl, ⟨rfl, rfl⟩, rfl⟩
  · have hs : slashB a = true := by simpa using c2
    have e : formB a = true := by
      rw [hF, hs]
      revert c c3
      cases digS (cutD a) <;> cases cutD a == [48] <;> cases cutD a == [49] <;> cases p1 <;> cases p2 <;> cases p3 <;> simp
    rw [e, hs]
    exact ⟨rfl, ⟨rfl, rfl⟩, rfl⟩
theorem rcut_C (a : List UInt8) (hl : a.length ≤ 4294967280) : PureCall Tryz.prog [] 196 [.str a] (.tup 2 (listFn [.agg 2 (listFn [.str (bif formB a then cutN a else []), .str (bif formB a then (bif slashB a then cutD a else [49]) else [])]), .b (formB a)])) :=
  pure_of_vc (T := Trc) (an := .auto) mixed Trc_sound (Eq.mp (by kernel_rfl) (rcut_vc a hl))
theorem rcut_T : PureT Tryz.prog [] 196 rcut_t := by
  intro xs ps r h hp
  unfold rcut_t at h
  split at h
  · skip
    rename_i a
    cases h
    obtain ⟨q0, -⟩ := allC hp
    exact weaken (ys := [.str a]) ⟨avM_refl _, trivial⟩ (rcut_C a q0)
  · cases h
end Go.Te

namespace Go.Te
open Go Go.Sx Go.Proofs Go.Ar
set_option maxRecDepth 100000
set_option maxHeartbeats 4000000
def denS (a : Str) : Str := bif slashB a then cutD a else [49]
theorem intE_itoa' (n : Int) : intE (Lib.itoa n) = resE n := by
  obtain ⟨h1, h2⟩ := itoa_intB n
  have h3 := lenD_eq h1
  rw [h2] at h3
  unfold intE resE
  rw [h1, h3]
  rfl
theorem vok {a : Str} (h : ratE a = 0) : intE (cutN a) = 0 ∧ intE (denS a) = 0 ∧ valI (cutN a) = ratN a ∧ valI (denS a) = (ratD a : Int) := by
  obtain ⟨h1, h2, h3, _⟩ := ratE_zero.1 h
  have hi : intB (cutN a) = true := by
    unfold formB at h1
    rw [Bool.and_eq_true] at h1
    exact h1.1
  refine ⟨intE_zero.2 ⟨hi, h2⟩, ?_, rfl, ?_⟩
  all_goals
    unfold denS
    cases hs : slashB a with
    | false =>
      first
        | (show intE [49] = 0; exact intE_zero.2 (by decide))
        | (unfold ratD; rw [hs]; show valI [49] = ((1 : Nat) : Int); decide)
    | true =>
      unfold formB at h1
      rw [hs] at h1
      have hd : digS (cutD a) = true := by
        revert h1
        cases digS (cutD a) <;> simp
      obtain ⟨i1, i2⟩ := intB_nat hd
      first
        | exact intE_zero.2 ⟨i1, Nat.le_trans (lenD_le _).1 h3⟩
        | (unfold ratD; rw [hs]; exact i2)
theorem one_iff (g : Nat) : (Lib.itoa (g : Int) == [49]) = Nat.beq g 1 := by
  rw [Go.Ar.itoa_nat, Bool.eq_iff_iff, beq_iff_eq, Nat.beq_eq]
  constructor
  · intro h
    have := congrArg decV h
    rw [decV_decDigits] at this
    exact this
  · intro h
    rw [h, decDigits_small (by decide)]; rfl
theorem opm {a b : Str} (ha : ratE a = 0) (hb : ratE b = 0) : opE (fun x1 x2 => x1 * x2) (cutN a) (denS b) = resE (ratN a * (ratD b : Int)) ∧ opS (fun x1 x2 => x1 * x2) (cutN a) (denS b) = resS (ratN a * (ratD b : Int)) := by
  obtain ⟨a1, a2, a3, a4⟩ := vok ha
  obtain ⟨b1, b2, b3, b4⟩ := vok hb
  have hE : bothE (cutN a) (denS b) = 0 := by unfold bothE; rw [a1, b2]; rfl
  obtain ⟨e1, e2⟩ := op_eq (f := fun x1 x2 => x1 * x2) hE
  rw [a3, b4] at e1 e2
  exact ⟨e2, e1⟩
theorem cmp_res {n m : Int} (hn : resE n = 0) (hm : resE m = 0) : cmpV (resS n) (resS m) = cmpI n m ∧ bothE (resS n) (resS m) = 0 ∧ (resS n).length ≤ 4294967280 ∧ (resS m).length ≤ 4294967280 := by
  have e : ∀ k, resE k = 0 → resS k = Lib.itoa k := fun k h => by unfold resS; rw [h]; rfl
  have l : ∀ k, resE k = 0 → (Lib.itoa k).length ≤ 4294967280 := fun k h => by
    rw [itoa_len]
    have : ¬ 300 < nDg k := fun e => by unfold resE at h; rw [(blt_iff _ _).2 e] at h; cases h
    split <;> omega
  rw [e n hn, e m hm]
  have hE : bothE (Lib.itoa n) (Lib.itoa m) = 0 := by
    unfold bothE
    rw [intE_itoa', hn, intE_itoa', hm]
    rfl
  refine ⟨?_, hE, l n hn, l m hm⟩
  unfold cmpV
  rw [hE, (itoa_intB n).2, (itoa_intB m).2]
  rfl
theorem nat_rat {a : Str} (h : natB a = true) : ratE a = 0 ∧ (ratN a).natAbs ≤ 99999999 ∧ ratD a ≤ 99999999 := by
  obtain ⟨h1, h2, h3, h4⟩ := natB_iff.1 h
  obtain ⟨g1, g2, g3⟩ := form_iff.1 h1
  have hr : ratE a = 0 := by
    unfold natB at h
    rw [Bool.and_eq_true, Bool.and_eq_true, beq_iff_eq] at h
    exact h.1.1
  have b := decV_bound g1 (k := 8) h2
  rw [show 10 ^ 8 = 100000000 from by decide] at b
  refine ⟨hr, by rw [ratN_abs]; omega, ?_⟩
  rw [(own_cut (a := a)).2]
  cases hs : slashB (ownS a) with
  | false => show 1 ≤ 99999999; decide
  | true =>
    have b := decV_bound (g3 hs).1 (k := 8) h3
    rw [show 10 ^ 8 = 100000000 from by decide] at b
    simp only [cond_true]
    omega
noncomputable def Trr (G : List (Nat × Obj)) : Tb := ((((tb0 G).plus 196 rcut_t).plus 130 rnat_t).plus 44 (dash_t fun s => .str (ownS s))).plus 191 iGcd_t
theorem Trr_sound {G : List (Nat × Obj)} (hG : TabIn G) : TbSound Tryz.prog (Trr G) := TbSound.plus (TbSound.plus (TbSound.plus (TbSound.plus tb0_sound (PureT.mono rcut_T)) (PureT.mono rnat_T)) (PureT.mono trimP_T)) (iGcd_T hG)
def rread_t : List AV → Option (List Cond × AV)
  | [.str a] => some ([.p (a.length ≤ 4294967280)], .tup 2 (listFn [.agg 2 (listFn [.str (bif ratE a == 0 then cutN a else []), .str (bif ratE a == 0 then denS a else [])]), .i (ratE a)]))
  | _ => none
theorem rread_vc (G : List (Nat × Obj)) (a : List UInt8) (hl : a.length ≤ 4294967280) :
 let q2 := (True ∧ 2 = 2 ∧ (Array.toList (ByteArray.data (ByteArray.mk #[])) = bif ratE a == (0 : Int) then cutN a else []) ∧ Array.toList (ByteArray.data (ByteArray.mk #[])) = bif ratE a == (0 : Int) then denS a else []); let q1 := (2 = List.length [AV.junk, AV.junk] ∧ q2 ∧ IntKind.i64 = .i64 ∧ (11 : Int) = ratE a); let q4 := (bif formB a then bif slashB a then cutD a else [(49 : UInt8)] else []); let q3 := (2 = List.length [AV.junk, AV.junk] ∧ (True ∧ 2 = 2 ∧ ((bif formB a then cutN a else []) = bif ratE a == (0 : Int) then cutN a else []) ∧ q4 = bif ratE a == (0 : Int) then denS a else []) ∧
 IntKind.i64 = .i64 ∧ (0 : Int) = ratE a); let q7 := (↑(List.length (ownS (bif formB a then cutN a else []))) : Int); let q6 := (ltB (300 : Int) q7); let q5 := (!bsel false q6 || bsel false q6); let q8 := (ByteArray.data (ByteArray.mk #[(49 : UInt8)])); let q9 := (bothE (bif formB a then cutN a else []) q4 != (0 : Int)); bndL [AV.str a] → List.length a ≤ 4294967280 ∧ bsplit (!formB a) q1 (List.length a ≤ 4294967280 ∧ bsplit (natB a) q3 (bsplit q5 (bsplit q5 (bsplit q5 (bsplit (!!ltB (300 : Int) q7 || bsel false q6) (bsplit (bif ltB (300 : Int) q7 then true else ltB (300 : Int) (↑(List.length q4)
 : Int)) (2 = List.length [AV.junk, AV.junk] ∧ q2 ∧ IntKind.i64 = .i64 ∧ (4 : Int) = ratE a) (bsplit (q4 == Array.toList q8) q3 (List.length (bif formB a then cutN a else []) ≤ 4294967280 ∧ List.length q4 ≤ 4294967280 ∧ bsplit (!bsel false q9 || bsel false q9) (bsplit (!!bothE (bif formB a then cutN a else []) q4 != (0 : Int) || bsel false q9) (bsplit (bif bothE (bif formB a then cutN a else []) q4 != (0 : Int) then true else !(bif bothE (bif formB a then cutN a else []) q4 != (0 : Int) then [] else Lib.itoa (↑(gcdN (bif formB a then cutN a else []) q4) : Int)) == Array.toList q8) q1 q3) False)
 False))) False) False) False) False)) := by
  dsimp only
  intro hb
  simp only [sS, dS, ltB_nat]
  have hFO := formB_own a
  have hden : (bif slashB a then cutD a else [49]) = denS a := rfl
  obtain ⟨o1, o2, o3, o4, o5, o6, o7⟩ := own_parts a
  refine ⟨hl, bsplit_iff.2 ⟨fun c => ?_, fun c => ?_⟩⟩
  · have c : formB a = false := by simpa using c
    rw [c] at hFO
    rw [ratE_bad hFO.symm]
    exact ⟨rfl, ⟨rfl, rfl⟩, rfl⟩
  have c : formB a = true := by simpa using c
  have hFO' : formO a = true := hFO.symm.trans c
  simp only [c, cond_true, hden]
  have fin : ratE a = 0 → 2 = [AV.junk, AV.junk].length ∧ ((cutN a = bif ratE a == 0 then cutN a else []) ∧ denS a = bif ratE a == 0 then denS a else []) ∧ 0 = ratE a := fun h => by rw [h]; exact ⟨rfl, ⟨rfl, rfl⟩, rfl⟩
  have bad : ∀ e : Int, e ≠ 0 → ratE a = e → 2 = [AV.junk, AV.junk].length ∧ (([] = bif ratE a == 0 then cutN a else []) ∧ [] = bif ratE a == 0 then denS a else []) ∧ e = ratE a := fun e h0 h => by
    rw [h, beq_eq_false_iff_ne.2 h0]; exact ⟨rfl, ⟨rfl, rfl⟩, rfl⟩
  have hlen : (ownS (cutN a)).length = (cutN (ownS a)).length := by rw [← (int_own (cutN a)).2, o5]
  have hcd := cutN_len a
  have hdd := cutD_len a
  refine ⟨hl, bsplit_iff.2 ⟨fun k => fin (nat_rat k).1, fun k => bsplit_iff.2 ⟨fun k2 => bad 4 (by decide) (ratE_long hFO' ?_), fun k2 => bsplit_iff.2 ⟨fun k3 => ?_, fun k3 => ?_⟩⟩⟩⟩
  · rw [Bool.or_eq_true, ltB_iff, ltB_iff, hlen] at k2
    rcases k2 with k2 | k2
    · exact .inl (by omega)
    · refine .inr ?_
      rw [← o2]
      unfold denS at k2
      cases hs : slashB a with
      | true => rw [hs, cond_true] at k2; omega
      | false => rw [hs, cond_false] at k2; exact absurd k2 (by decide)
  · have hs : slashB a = false := by
      cases hs : slashB a with
      | false => rfl
      | true =>
        unfold denS at k3
        rw [hs, cond_true] at k3
        have := (form_iff.1 hFO').2.2 (by rw [← o3]; exact hs)
        rw [← o2] at this
        exact absurd (eq_of_beq k3) this.2.2
    rw [Bool.or_eq_false_iff, Bool.eq_false_iff, Ne, ltB_iff, hlen] at k2
    exact fin (ratE_int hFO' (by omega) (by rw [← o3]; exact hs))
  · have hs : slashB a = true := by
      cases hs : slashB a with
      | true => rfl
      | false => unfold denS at k3; rw [hs] at k3; cases k3
    have hdS : denS a = cutD a := by unfold denS; rw [hs]; rfl
    rw [hdS] at k2 bad fin ⊢
    rw [Bool.or_eq_false_iff, Bool.eq_false_iff, Bool.eq_false_iff, Ne, Ne, ltB_iff, ltB_iff, hlen] at k2
    have e2 := ratE_gcd hFO' ⟨by omega, by rw [← o2]; omega⟩ (by rw [← o3]; exact hs)
    have g := (form_iff.1 hFO').2.2 (by rw [← o3]; exact hs)
    rw [← o2] at g e2
    obtain ⟨i1, i2⟩ := intB_nat g.1
    have hi : intB (cutN a) = true := by
      have := c
      unfold formB at this
      rw [Bool.and_eq_true] at this
      exact this.1
    have hE : bothE (cutN a) (cutD a) = 0 := by
      have l2 := (lenD_le (cutD a)).1
      have q1 : intE (cutN a) = 0 := intE_zero.2 ⟨hi, by rw [o5]; omega⟩
      have q2 : intE (cutD a) = 0 := intE_zero.2 ⟨i1, by omega⟩
      unfold bothE
      rw [q1, q2]; rfl
    have hg : gcdN (cutN a) (cutD a) = Nat.gcd (decV (cutN (ownS a))) (decV (cutD a)) := by
      unfold gcdN
      rw [i2, Int.natAbs_natCast, ← ratN_abs]
      rfl
    rw [hE]
    simp only [bne_self_eq_false, cond_false, Bool.false_or, one_iff, hg]
    refine ⟨by omega, by omega, bsplit_iff.2 ⟨fun k4 => bad 11 (by decide) ?_, fun k4 => ?_⟩⟩
    · rw [e2, show Nat.beq (Nat.gcd (decV (cutN (ownS a))) (decV (cutD a))) 1 = false by rw [Bool.not_eq_true'] at k4; exact k4]; rfl
    · exact fin (by rw [e2, show Nat.beq (Nat.gcd (decV (cutN (ownS a))) (decV (cutD a))) 1 = true by rw [Bool.not_eq_false'] at k4; exact k4]; rfl)
theorem rread_C {G : List (Nat × Obj)} (hG : TabIn G) (a : List UInt8) (hl : a.length ≤ 4294967280) : PureCall Tryz.prog G 132 [.str a] (.tup 2 (listFn [.agg 2 (listFn [.str (bif ratE a == 0 then cutN a else []), .str (bif ratE a == 0 then denS a else [])]), .i (ratE a)])) :=
  pure_of_vc (T := Trr G) (an := .auto) mixed (Trr_sound hG) (Eq.mp (by kernel_rfl) (rread_vc G a hl))
theorem rread_T {G : List (Nat × Obj)} (hG : TabIn G) : PureT Tryz.prog G 132 rread_t := by
  intro xs ps r h hp
  unfold rread_t at h
  split at h
  · skip
    rename_i a
    cases h
    obtain ⟨q0, -⟩ := allC hp
    exact weaken (ys := [.str a]) ⟨avM_refl _, trivial⟩ (rread_C hG a q0)
  · cases h
def rchk_t : List AV → Option (List Cond × AV)
  | [.str a] => some ([.p (a.length ≤ 4294967280)], .i (ratE a))
  | _ => none
theorem rchk_vc (G : List (Nat × Obj)) (a : List UInt8) (hl : a.length ≤ 4294967280) :
 bndL [AV.str a] → List.length a ≤ 4294967280 ∧ IntKind.i64 = .i64 ∧ ratE a = ratE a := by
  intro hb
  simp only [sS, dS, ltB_nat]
  exact hl
theorem rchk_C {G : List (Nat × Obj)} (hG : TabIn G) (a : List UInt8) (hl : a.length ≤ 4294967280) : PureCall Tryz.prog G 110 [.str a] (.i (ratE a)) :=
  pure_of_vc (T := (tb0 G).plus 132 rread_t) (an := .auto) mixed (TbSound.plus tb0_sound (rread_T hG)) (Eq.mp (by kernel_rfl) (rchk_vc G a hl))
theorem rchk_T {G : List (Nat × Obj)} (hG : TabIn G) : PureT Tryz.prog G 110 rchk_t := by
  intro xs ps r h hp
  unfold rchk_t at h
  split at h
  · skip
    rename_i a
    cases h
    obtain ⟨q0, -⟩ := allC hp
    exact weaken (ys := [.str a]) ⟨avM_refl _, trivial⟩ (rchk_C hG a q0)
  · cases h
def rcE (a b : Str) : Int := bif ratE a != 0 then ratE a else bif ratE b != 0 then ratE b else bif resE (ratN a * (ratD b : Int)) != 0 then resE (ratN a * (ratD b : Int)) else resE (ratN b * (ratD a : Int))
def rcV (a b : Str) : Int := bif rcE a b == 0 then cmpI (ratN a * (ratD b : Int)) (ratN b * (ratD a : Int)) else 0
noncomputable def Tcm0 (G : List (Nat × Obj)) : Tb := (((((tb0 G).plus 132 rread_t).plus 130 rnat_t).plus 145 iMul_t).plus 134 iCmp_t).plus 131 ccmp_t
theorem Tcm0_sound {G : List (Nat × Obj)} (hG : TabIn G) : TbSound Tryz.prog (Tcm0 G) := TbSound.plus (TbSound.plus (TbSound.plus (TbSound.plus (TbSound.plus tb0_sound (rread_T hG)) (PureT.mono rnat_T)) (iMul_T hG)) (iCmp_T hG)) (PureT.mono ccmp_T)
noncomputable def Tcm (G : List (Nat × Obj)) : Tb := (Tcm0 G).body Tryz.prog [(133, .auto)]
theorem Tcm_sound {G : List (Nat × Obj)} (hG : TabIn G) : TbSound Tryz.prog (Tcm G) := TbSound.body mixed (Tcm0_sound hG) _
def rCmp_t : List AV → Option (List Cond × AV)
  | [.str a, .str b] => some ([.p (a.length ≤ 4294967280), .p (b.length ≤ 4294967280)], .tup 2 (listFn [.i (rcV a b), .i (rcE a b)]))
  | _ => none
theorem rCmp_vc (G : List (Nat × Obj)) (a : List UInt8) (b : List UInt8) (hla : a.length ≤ 4294967280) (hlb : b.length ≤ 4294967280) :
 let q1 := ((bif natB a then ratN a else (0 : Int)) * bif natB b then (↑(ratD b) : Int) else (0 : Int)); let q2 := ((bif natB b then ratN b else (0 : Int)) * bif natB a then (↑(ratD a) : Int) else (0 : Int)); let q4 := (True ∧ IntKind.i64 = .i64 ∧ (0 : Int) = rcV a b); let q5 := (bif ratE a == (0 : Int) then cutN a else []); let q6 := (bif ratE b == (0 : Int) then denS b else []); let q7 := (opE (fun (x1 x2 : Int) => x1 * x2) q5 q6 != (0 : Int)); let q8 := (Array.toList (ByteArray.data (ByteArray.mk #[]))); let q9 := (bif ratE b == (0 : Int) then cutN b else []); let q10 := (bif ratE a == (0 :
 Int) then denS a else []); let q11 := (opS (fun (x1 x2 : Int) => x1 * x2) q5 q6); let q12 := (opS (fun (x1 x2 : Int) => x1 * x2) q9 q10); let q3 := (List.length a ≤ 4294967280 ∧ bsplit (ratE a != (0 : Int)) (2 = List.length [AV.junk, AV.junk] ∧ q4 ∧ IntKind.i64 = .i64 ∧ ratE a = rcE a b) (List.length b ≤ 4294967280 ∧ bsplit (ratE b != (0 : Int)) (2 = List.length [AV.junk, AV.junk] ∧ q4 ∧ IntKind.i64 = .i64 ∧ ratE b = rcE a b) (List.length q5 ≤ 4294967280 ∧ List.length q6 ≤ 4294967280 ∧ bsplit q7 (bsplit q7 (2 = List.length [AV.junk, AV.junk] ∧ q4 ∧ IntKind.i64 = .i64 ∧ opE (fun (x1 x2 : Int) =>
 x1 * x2) q5 q6 = rcE a b) (0 ≤ 4294967280 ∧ 0 ≤ 4294967280 ∧ 2 = List.length [AV.junk, AV.junk] ∧ (True ∧ IntKind.i64 = .i64 ∧ cmpV q8 q8 = rcV a b) ∧ IntKind.i64 = .i64 ∧ bothE q8 q8 = rcE a b)) (List.length q9 ≤ 4294967280 ∧ List.length q10 ≤ 4294967280 ∧ bsplit (opE (fun (x1 x2 : Int) => x1 * x2) q9 q10 != (0 : Int)) (2 = List.length [AV.junk, AV.junk] ∧ q4 ∧ IntKind.i64 = .i64 ∧ opE (fun (x1 x2 : Int) => x1 * x2) q9 q10 = rcE a b) (List.length q11 ≤ 4294967280 ∧ List.length q12 ≤ 4294967280 ∧ 2 = List.length [AV.junk, AV.junk] ∧ (True ∧ IntKind.i64 = .i64 ∧ cmpV q11 q12 = rcV a b) ∧
 IntKind.i64 = .i64 ∧ bothE q11 q12 = rcE a b))))); bndL [AV.str a, AV.str b] → List.length a ≤ 4294967280 ∧ bsplit (natB a) (List.length b ≤ 4294967280 ∧ bsplit (natB b) (bsplit (DB.db (inK .i64 q1)) (bsplit (DB.db (inK .i64 q2)) (2 = List.length [AV.junk, AV.junk] ∧ (True ∧ IntKind.i64 = .i64 ∧ cmpI q1 q2 = rcV a b) ∧ IntKind.i64 = .i64 ∧ (0 : Int) = rcE a b) False) False) q3) q3 := by
  dsimp only
  intro hb
  simp only [sS, dS, ltB_nat]
  have ncd := cutN_len a
  have ncb := cutN_len b
  have dl : ∀ a : Str, ratE a = 0 → (denS a).length ≤ 301 := fun a h => by have := (ratE_zero.1 h).2.2.1; unfold denS; cases slashB a <;> simp <;> omega
  have eA : ratE a ≠ 0 → 0 = rcV a b ∧ ratE a = rcE a b := fun h => by
    have e : rcE a b = ratE a := by unfold rcE; rw [bne_iff_ne.2 h]; rfl
    unfold rcV
    rw [e, beq_eq_false_iff_ne.2 h]
    exact ⟨rfl, rfl⟩
  have eB : ratE a = 0 → ratE b ≠ 0 → 0 = rcV a b ∧ ratE b = rcE a b := fun h0 h => by
    have e : rcE a b = ratE b := by unfold rcE; rw [h0, bne_iff_ne.2 h]; rfl
    unfold rcV
    rw [e, beq_eq_false_iff_ne.2 h]
    exact ⟨rfl, rfl⟩
  have eC : ratE a = 0 → ratE b = 0 → resE (ratN a * (ratD b : Int)) ≠ 0 → 0 = rcV a b ∧ resE (ratN a * (ratD b : Int)) = rcE a b := fun h0 h1 h => by
    have e : rcE a b = resE (ratN a * (ratD b : Int)) := by unfold rcE; rw [h0, h1, bne_iff_ne.2 h]; rfl
    unfold rcV
    rw [e, beq_eq_false_iff_ne.2 h]
    exact ⟨rfl, rfl⟩
  have eD : ratE a = 0 → ratE b = 0 → resE (ratN a * (ratD b : Int)) = 0 → rcE a b = resE (ratN b * (ratD a : Int)) := fun h0 h1 h => by
    unfold rcE; rw [h0, h1, h]; rfl
  have big : ratE a = 0 → ratE b = 0 → _ := fun h0 h1 => And.intro (opm h0 h1) (opm h1 h0)
  refine ⟨hla, bsplit_iff.2 ⟨fun c => ⟨hlb, bsplit_iff.2 ⟨fun c2 => ?_, fun c2 => ?_⟩⟩, fun c => ?_⟩⟩
  · obtain ⟨a1, a2, a3⟩ := nat_rat c
    obtain ⟨b1, b2, b3⟩ := nat_rat c2
    rw [c, c2]
    simp only [cond_true]
    have m1 : (ratN a * (ratD b : Int)).natAbs ≤ 99999999 * 99999999 := by rw [Int.natAbs_mul, Int.natAbs_natCast]; exact Nat.mul_le_mul a2 b3
    have m2 : (ratN b * (ratD a : Int)).natAbs ≤ 99999999 * 99999999 := by rw [Int.natAbs_mul, Int.natAbs_natCast]; exact Nat.mul_le_mul b2 a3
    obtain ⟨r1, r2⟩ := res_small (n := ratN a * (ratD b : Int)) (k := 20) (by omega) (by omega) (by omega)
    obtain ⟨r3, r4⟩ := res_small (n := ratN b * (ratD a : Int)) (k := 20) (by omega) (by omega) (by omega)
    have e := eD a1 b1 r2
    rw [r4] at e
    unfold rcV
    rw [e]
    exact ⟨⟨by omega, by omega⟩, ⟨by omega, by omega⟩, rfl, rfl, rfl⟩
  all_goals
    refine ⟨hla, fun h => ⟨rfl, eA h⟩, fun h0 => ⟨hlb, fun h => ⟨rfl, eB h0 h⟩, fun h1 => ?_⟩⟩
    obtain ⟨⟨p1, p2⟩, p3, p4⟩ := big h0 h1
    have dla := dl a h0
    have dlb := dl b h1
    rw [h0, h1]
    simp only [beq_self_eq_true, cond_true, p1, p2, p3, p4]
    refine ⟨by omega, by omega, fun h => ⟨fun _ => ⟨rfl, eC h0 h1 h⟩, fun h2 => absurd h2 h⟩, fun h => ⟨by omega, by omega, fun h2 => ?_, fun h2 => ?_⟩⟩
    · have e := eD h0 h1 h
      unfold rcV
      rw [e, beq_eq_false_iff_ne.2 h2]
      exact ⟨rfl, rfl, rfl⟩
    · have e := eD h0 h1 h
      rw [h2] at e
      obtain ⟨q1, q2, q3, q4⟩ := cmp_res h h2
      unfold rcV
      rw [e, q1, q2]
      exact ⟨q3, q4, rfl, rfl, rfl⟩
theorem rCmp_C {G : List (Nat × Obj)} (hG : TabIn G) (a : List UInt8) (b : List UInt8) (hla : a.length ≤ 4294967280) (hlb : b.length ≤ 4294967280) : PureCall Tryz.prog G 90 [.str a, .str b] (.tup 2 (listFn [.i (rcV a b), .i (rcE a b)])) :=
  pure_of_vc (T := Tcm G) (an := .auto) mixed (Tcm_sound hG) (Eq.mp (by kernel_rfl) (rCmp_vc G a b hla hlb))
theorem rCmp_T {G : List (Nat × Obj)} (hG : TabIn G) : PureT Tryz.prog G 90 rCmp_t := by
  intro xs ps r h hp
  unfold rCmp_t at h
  split at h
  · skip
    rename_i a b
    cases h
    obtain ⟨q0, q1, -⟩ := allC hp
    exact weaken (ys := [.str a, .str b]) ⟨avM_refl _, avM_refl _, trivial⟩ (rCmp_C hG a b q0 q1)
  · cases h
end Go.Te

namespace Go.Te
open Go Go.Sx Go.Proofs Go.Ar
set_option maxRecDepth 100000
set_option maxHeartbeats 4000000
end Go.Te

namespace Go.Te
open Go Go.Sx Go.Proofs Go.Ar
set_option maxRecDepth 100000
set_option maxHeartbeats 4000000
end Go.Te

namespace Go.Te
open Go Go.Sx Go.Proofs Go.Ar
set_option maxRecDepth 100000
set_option maxHeartbeats 4000000
theorem rc_D {a b : Str} (h0 : ratE a = 0) (h1 : ratE b = 0) (h : resE (ratN a * (ratD b : Int)) = 0) : rcE a b = resE (ratN b * (ratD a : Int)) := by
  unfold rcE; rw [h0, h1, h]; rfl
theorem rc_E {a b : Str} (h : rcE a b = 0) : rcV a b = cmpI (ratN a * (ratD b : Int)) (ratN b * (ratD a : Int)) := by unfold rcV; rw [h]; rfl
theorem rat_form {a : Str} (h : ratE a = 0) : formO a = true := by
  cases hf : formO a with
  | true => rfl
  | false => rw [ratE_bad hf] at h; cases h
end Go.Te

namespace Go.Te
open Go Go.Sx Go.Proofs Go.Ar Go.RowKit
set_option maxRecDepth 100000
section
variable {H : Type} {enc : TypeId × Value → H} {W : World} {spare : Nat → Bool} {held : Bool}
theorem cells_at {base n : Nat} {A : Addr} {cs : List Value} (h : W.cells? base A n = some cs) : cs.length = n ∧ ∀ i, i < n → W.cell? (A.add i) = some (cs.getD i undef) := by
  unfold World.cells? at h
  split at h
  · refine ⟨by simpa using Lib.mapM_length h, fun i hi => ?_⟩
    obtain ⟨b, hb, hf⟩ := Lib.mapM_at h i i (by simp [hi])
    rw [hf, List.getD_eq_getElem?_getD, hb, Option.getD_some]
  · cases h
theorem cell_lt {A : Addr} {v : Value} (h : W.cell? A = some v) : A.block < W.heap.size := by
  rcases Nat.lt_or_ge A.block W.heap.size with h' | h'
  · exact h'
  · simp [World.cell?, Array.getElem?_eq_none h'] at h
theorem cellsInt : Tryz.prog.cellsOf 3 = 1 := by kernel_rfl
abbrev Old (W : World) : Nat → Prop := fun b => b < W.heap.size
def Tells {α : Type} [Enc α] (W : World) (a : α) (cs : List Value) : Prop :=
  ∀ j, j < Enc.n α → Rel W (Old W) rho0 (Enc.enc a j) (cs.getD j undef) ∧ (cs.getD j undef).oneCell' = true
theorem read_int {n : Nat} {cs : List Value} {x : DataW H × List MemPlace} (h : DataW.trod enc Tryz.prog W 0 spare held n 3 cs = some x) : ∃ m, cs = [.int .i64 m] ∧ inK .i64 m := by
  obtain ⟨m, h1, _, h3⟩ := DataW.trod_int Tryz.underlying3 h
  refine ⟨m, h1, ?_⟩
  simp only [Lit.wf, Bool.and_eq_true, decide_eq_true_eq] at h3
  exact h3
theorem read_slice {α : Type} [Enc α] {t e : TypeId} (hu : Tryz.prog.underlying t = some (.slice e)) (hn : Tryz.prog.cellsOf e = Enc.n α) {Good : α → Prop} (hd : Good Enc.dflt)
    (hel : ∀ {n : Nat} {cs : List Value} {x : DataW H × List MemPlace}, DataW.trod enc Tryz.prog W 0 spare held n e cs = some x → ∃ a : α, Tells W a cs ∧ Good a)
    {n : Nat} {cs : List Value} {x : DataW H × List MemPlace} (h : DataW.trod enc Tryz.prog W 0 spare held n t cs = some x) :
    ∃ (v : Value) (l : List α), cs = [v] ∧ v.oneCell' = true ∧ Rel W (Old W) rho0 (slE l) v ∧ ∀ j, Good (l.getD j Enc.dflt) := by
  rcases DataW.trod_slice hu h with ⟨h1, _⟩ | ⟨a, len, cap, elems, rest, m, _, h1, _, _, h2, h3, h4, h5, _, _⟩
  · exact ⟨_, [], h1, rfl, .xl none 0 (fun _ _ => undef) (Nat.le_refl _) (Nat.zero_le _) (fun _ => rfl) (fun i j hi => absurd hi (Nat.not_lt_zero _)) (fun i j hi => absurd hi (Nat.not_lt_zero _)), fun j => by simpa using hd⟩
  · rw [hn] at h5
    have key : ∀ i, ∃ u : α, (i < len → ∀ j, j < Enc.n α → ∃ c, W.cell? (a.add (i * Enc.n α + j)) = some c ∧ Rel W (Old W) rho0 (Enc.enc u j) c ∧ c.oneCell' = true) ∧ Good u := fun i => by
      by_cases hi : i < len
      · have := h5 i hi
        rw [List.getElem?_eq_getElem (by omega)] at this
        obtain ⟨cs', hc, hd'⟩ := Option.bind_eq_some_iff.1 this
        obtain ⟨u, h6, h7⟩ := hel hd'
        refine ⟨u, fun _ j hj => ⟨cs'.getD j undef, ?_, h6 j hj⟩, h7⟩
        have := (cells_at hc).2 j hj
        rw [add_of_add] at this
        exact this
      · exact ⟨Enc.dflt, fun h => absurd h hi, hd⟩
    obtain ⟨f, hf⟩ : ∃ f : Nat → α, ∀ i, (i < len → ∀ j, j < Enc.n α → ∃ c, W.cell? (a.add (i * Enc.n α + j)) = some c ∧ Rel W (Old W) rho0 (Enc.enc (f i) j) c ∧ c.oneCell' = true) ∧ Good (f i) :=
      ⟨fun i => Classical.choose (key i), fun i => Classical.choose_spec (key i)⟩
    have hg : ∀ i, i < len → (listOf len f).getD i Enc.dflt = f i := fun i hi => by simp [listOf, List.getD_eq_getElem?_getD, hi]
    have hlen : (listOf len f).length = len := by simp [listOf]
    refine ⟨_, listOf len f, h1, rfl, ?_, fun i => ?_⟩
    · unfold slE
      rw [hlen]
      refine .xl (some a) cap (fun i j => (W.cell? (a.add (i * Enc.n α + j))).getD undef) h2 h3 (fun e => by cases e) (fun i j hi hj => ?_) (fun i j hi hj => ?_)
      · obtain ⟨c, hc, _, ho⟩ := (hf i).1 hi j hj
        refine ⟨a, rfl, ?_, ?_, ?_⟩
        · have := cell_lt hc
          rw [block_of_add] at this
          exact this
        · show W.cell? (a.add (i * Enc.n α + j)) = some _
          rw [hc]; rfl
        · rw [hc]; exact ho
      · obtain ⟨c, hc, hr, _⟩ := (hf i).1 hi j hj
        rw [hg i hi, hc]
        exact hr
    · by_cases hi : i < len
      · rw [hg i hi]; exact (hf i).2
      · rw [List.getD_eq_getElem?_getD, List.getElem?_eq_none (by omega)]
        exact hd
theorem cellsrow : Tryz.prog.cellsOf 38 = 5 := by kernel_rfl
theorem read_row {n : Nat} {cs : List Value} {x : DataW H × List MemPlace} (h : DataW.trod enc Tryz.prog W 0 spare held n 38 cs = some x) : ∃ g : Row, Tells W g cs ∧ True := by
  obtain ⟨xs, m, _, _, hl, hx, hf⟩ := DataW.trod_struct Tryz.underlying38 h
  rw [cellsrow] at hl
  match cs, hl with
  | [c0, c1, c2, c3, c4], _ =>
  have hx3 : xs.length = 5 := hx
  have g0 : DataW.trod enc Tryz.prog W 0 spare held m 3 (([c0, c1, c2, c3, c4].drop 0).take (Tryz.prog.cellsOf 3)) = xs[0]? := hf 0 _ rfl
  have g1 : DataW.trod enc Tryz.prog W 0 spare held m 3 (([c0, c1, c2, c3, c4].drop 1).take (Tryz.prog.cellsOf 3)) = xs[1]? := hf 1 _ rfl
  have g2 : DataW.trod enc Tryz.prog W 0 spare held m 3 (([c0, c1, c2, c3, c4].drop 2).take (Tryz.prog.cellsOf 3)) = xs[2]? := hf 2 _ rfl
  have g3 : DataW.trod enc Tryz.prog W 0 spare held m 3 (([c0, c1, c2, c3, c4].drop 3).take (Tryz.prog.cellsOf 3)) = xs[3]? := hf 3 _ rfl
  have g4 : DataW.trod enc Tryz.prog W 0 spare held m 3 (([c0, c1, c2, c3, c4].drop 4).take (Tryz.prog.cellsOf 3)) = xs[4]? := hf 4 _ rfl
  rw [cellsInt] at g0 g1 g2 g3 g4
  rw [List.getElem?_eq_getElem (by omega)] at g0 g1 g2 g3 g4
  obtain ⟨z0, e0, _⟩ := read_int g0
  obtain ⟨z1, e1, _⟩ := read_int g1
  obtain ⟨z2, e2, _⟩ := read_int g2
  obtain ⟨z3, e3, _⟩ := read_int g3
  obtain ⟨z4, e4, _⟩ := read_int g4
  simp only [List.drop_zero, List.drop_succ_cons, List.take_succ_cons, List.take_zero, List.cons.injEq, and_true] at e0 e1 e2 e3 e4
  subst e0 e1 e2 e3 e4
  refine ⟨⟨z0, z1, z2, z3, z4⟩, fun j hj => ?_, trivial⟩
  match j, hj with
  | 0, _ => exact ⟨.v _, rfl⟩
  | 1, _ => exact ⟨.v _, rfl⟩
  | 2, _ => exact ⟨.v _, rfl⟩
  | 3, _ => exact ⟨.v _, rfl⟩
  | 4, _ => exact ⟨.v _, rfl⟩
end
end Go.Te

namespace Go.Te
open Go Go.Sx Go.Proofs Go.Ar Go.RowKit
set_option maxRecDepth 100000
structure Qu where
  l : List Row
  w : Int
  d : Int
  s : Int
  q : Int
  sp : Str
instance : Enc Qu := ⟨6, ⟨[], 0, 0, 0, 0, []⟩, fun c => listFn [slE c.l, .i c.w, .i c.d, .i c.s, .i c.q, .str c.sp], fun cs => ⟨slD (cs 0), AV.int (cs 1), AV.int (cs 2), AV.int (cs 3), AV.int (cs 4), AV.bytes (cs 5)⟩,
  fun cs => slOk Row (cs 0) && isI64 (cs 1) && isI64 (cs 2) && isI64 (cs 3) && isI64 (cs 4) && isStr (cs 5), fun cs h j hj => by
  simp only [Bool.and_eq_true] at h
  match j, hj with
  | 0, _ => exact slE_sound h.1.1.1.1.1
  | 1, _ => exact avM_of_eq (isI64_eq h.1.1.1.1.2)
  | 2, _ => exact avM_of_eq (isI64_eq h.1.1.1.2)
  | 3, _ => exact avM_of_eq (isI64_eq h.1.1.2)
  | 4, _ => exact avM_of_eq (isI64_eq h.1.2)
  | 5, _ => exact avM_of_eq (isStr_eq h.2)⟩
instance : LawEnc Qu := ⟨fun c => by cases c; simp [Enc.enc, Enc.dec, listFn, slD_slE, AV.int, AV.bytes], fun c => by cases c; simp [Enc.enc, Enc.ok, listFn, slOk_slE, isI64, isStr]⟩
section
variable {H : Type} {enc : TypeId × Value → H} {W : World} {spare : Nat → Bool} {held : Bool}
theorem rel_string (s : ByteArray) {S : Nat → Prop} {ρ : Nat → Sx.Own} : Rel W S ρ (.str s.data.toList) (.string s) := by
  have h : Rel W S ρ (.str s.data.toList) (.string ⟨s.data.toList.toArray⟩) := .str _
  simpa using h
theorem cellsqu : Tryz.prog.cellsOf 25 = 6 := by kernel_rfl
theorem cellsStr : Tryz.prog.cellsOf 23 = 1 := by kernel_rfl
theorem cellsRows : Tryz.prog.cellsOf 22 = 1 := by kernel_rfl
theorem read_rows {n : Nat} {cs : List Value} {x : DataW H × List MemPlace} (h : DataW.trod enc Tryz.prog W 0 spare held n 22 cs = some x) :
    ∃ (v : Value) (l : List Row), cs = [v] ∧ v.oneCell' = true ∧ Rel W (Old W) rho0 (slE l) v ∧ ∀ j : Nat, True :=
  read_slice (α := Row) (Good := fun _ => True) Tryz.underlying22 cellsrow trivial read_row h
theorem read_qu {n : Nat} {cs : List Value} {x : DataW H × List MemPlace} (h : DataW.trod enc Tryz.prog W 0 spare held n 25 cs = some x) : ∃ g : Qu, Tells W g cs ∧ True := by
  obtain ⟨xs, m, _, _, hl, hx, hf⟩ := DataW.trod_struct Tryz.underlying25 h
  rw [cellsqu] at hl
  match cs, hl with
  | [c0, c1, c2, c3, c4, c5], _ =>
  have hx3 : xs.length = 6 := hx
  have g0 : DataW.trod enc Tryz.prog W 0 spare held m 22 (([c0, c1, c2, c3, c4, c5].drop 0).take (Tryz.prog.cellsOf 22)) = xs[0]? := hf 0 _ rfl
  have g1 : DataW.trod enc Tryz.prog W 0 spare held m 3 (([c0, c1, c2, c3, c4, c5].drop 1).take (Tryz.prog.cellsOf 3)) = xs[1]? := hf 1 _ rfl
  have g2 : DataW.trod enc Tryz.prog W 0 spare held m 3 (([c0, c1, c2, c3, c4, c5].drop 2).take (Tryz.prog.cellsOf 3)) = xs[2]? := hf 2 _ rfl
  have g3 : DataW.trod enc Tryz.prog W 0 spare held m 3 (([c0, c1, c2, c3, c4, c5].drop 3).take (Tryz.prog.cellsOf 3)) = xs[3]? := hf 3 _ rfl
  have g4 : DataW.trod enc Tryz.prog W 0 spare held m 3 (([c0, c1, c2, c3, c4, c5].drop 4).take (Tryz.prog.cellsOf 3)) = xs[4]? := hf 4 _ rfl
  have g5 : DataW.trod enc Tryz.prog W 0 spare held m 23 (([c0, c1, c2, c3, c4, c5].drop 5).take (Tryz.prog.cellsOf 23)) = xs[5]? := hf 5 _ rfl
  rw [cellsInt] at g1 g2 g3 g4
  rw [cellsRows] at g0
  rw [cellsStr] at g5
  rw [List.getElem?_eq_getElem (by omega)] at g0 g1 g2 g3 g4 g5
  obtain ⟨v, l, e0, o, r, _⟩ := read_rows g0
  obtain ⟨z1, e1, _⟩ := read_int g1
  obtain ⟨z2, e2, _⟩ := read_int g2
  obtain ⟨z3, e3, _⟩ := read_int g3
  obtain ⟨z4, e4, _⟩ := read_int g4
  obtain ⟨s5, e5, _⟩ := DataW.trod_string Tryz.underlying23 g5
  simp only [List.drop_zero, List.drop_succ_cons, List.take_succ_cons, List.take_zero, List.cons.injEq, and_true] at e0 e1 e2 e3 e4 e5
  subst e0 e1 e2 e3 e4 e5
  refine ⟨⟨l, z1, z2, z3, z4, s5.data.toList⟩, fun j hj => ?_, trivial⟩
  match j, hj with
  | 0, _ => exact ⟨r, o⟩
  | 1, _ => exact ⟨.v _, rfl⟩
  | 2, _ => exact ⟨.v _, rfl⟩
  | 3, _ => exact ⟨.v _, rfl⟩
  | 4, _ => exact ⟨.v _, rfl⟩
  | 5, _ => exact ⟨rel_string s5, rfl⟩
theorem read_quV {cs : Array Value} {d : DataW H} {ps : List MemPlace} (h : DataW.Trod enc Tryz.prog W 0 spare held 25 (.agg cs) d ps) (hs : cs.size = 6) : ∃ b : Qu, Rel W (Old W) rho0 (agE b) (.agg cs) := by
  obtain ⟨m, h⟩ := h
  have hcs : (Value.agg cs).cells.toList = cs.toList := rfl
  rw [hcs] at h
  obtain ⟨b, hb, _⟩ := read_qu h
  refine ⟨b, .agg cs hs fun i hi => ?_⟩
  have e : cs.getD i undef = cs.toList.getD i undef := by
    rw [Array.getD_eq_getD_getElem?, List.getD_eq_getElem?_getD, Array.getElem?_toList]
  rw [e]
  exact (hb i hi).1
end
end Go.Te

namespace Go.Te
open Go Go.Sx Go.Proofs Go.Ar Go.Lib
set_option maxRecDepth 100000
set_option maxHeartbeats 4000000
def rstart_t : List AV → Option (List Cond × AV)
  | [x_l, .v (.int .i64 w), .v (.int .i64 d), .v (.int .i64 s), .v (.int .i64 q)] => some ([.b (slOk Row x_l)], .i (askE (slD (α := Row) x_l) w d s q))
  | _ => none
theorem rstart_vc (l : List Row) (w : Int) (d : Int) (s : Int) (q : Int) :
 bndL [AV.xl false 5 (List.length l) fun i j => Enc.enc (List.getD l i Enc.dflt) j, AV.v (Value.int .i64 w), AV.v (Value.int .i64 d), AV.v (Value.int .i64 s), AV.v (Value.int .i64 q)] → bsplit (slOk Row (AV.xl false 5 (List.length l) fun i j => Enc.enc (List.getD l i Enc.dflt) j)) (bsplit (tabE (rowsOf (AV.xl false 5 (List.length l) fun i j => Enc.enc (List.getD l i Enc.dflt) j)) != (0 : Int)) (IntKind.i64 = .i64 ∧ (1 : Int) = askE l w d s q) (IntKind.i64 = .i64 ∧ (bif rangB w d s q then (0 : Int) else (2 : Int)) = askE l w d s q)) False := by
  intro hb
  have e2 : (Enc.dflt : Row) = r0 := rfl
  simp only [sS, agD_row, agOk_row, agD_row', agOk_row', okIn, okIn', deI, deI', okR, okR', deR, deR', deRo, deRo', e2]
  unfold askE
  refine ⟨fun h => by rw [bne_iff_ne.2 h]; rfl, fun h => ?_⟩
  rw [h]
  cases rangB w d s q <;> rfl
theorem rstart_C (l : List Row) (w : Int) (d : Int) (s : Int) (q : Int) : PureCall Tryz.prog [] 84 [slE l, .i w, .i d, .i s, .i q] (.i (askE l w d s q)) :=
  pure_of_vc (T := ((T0.plus 20 rcheck_t).plus 62 rconds_t)) (an := .auto) mixed (TbSound.plus (TbSound.plus tb0_sound rcheck_T) rconds_T) (Eq.mp (by kernel_rfl) (rstart_vc l w d s q))
theorem rstart_T : PureT Tryz.prog [] 84 rstart_t := by
  intro xs ps r h hp
  unfold rstart_t at h
  split at h
  · skip
    rename_i x_l w d s q
    cases h
    obtain ⟨q0, -⟩ := allC hp
    exact weaken (ys := [slE (slD (α := Row) x_l), .i w, .i d, .i s, .i q]) ⟨slE_sound q0, avM_refl _, avM_refl _, avM_refl _, avM_refl _, trivial⟩ (rstart_C (slD (α := Row) x_l) w d s q)
  · cases h
def rfind_t : List AV → Option (List Cond × AV)
  | [x_l, .v (.int .i64 w), .v (.int .i64 d), .v (.int .i64 s), .v (.int .i64 q)] => some ([.b (slOk Row x_l)], .tup 2 (listFn [.i (findV (slD (α := Row) x_l) w d s q), .i (findE (slD (α := Row) x_l) w d s q)]))
  | _ => none
theorem rfind_vc (l : List Row) (w : Int) (d : Int) (s : Int) (q : Int) :
 let q2 := (AV.xl false 5 (List.length l) fun i j => Enc.enc (List.getD l i Enc.dflt) j); let q1 := (slOk Row q2); let q3 := (slD q2); let q4 := (True ∧ IntKind.i64 = .i64 ∧ (0 : Int) = findV l w d s q); let q5 := (rowsOf q2); bndL [AV.xl false 5 (List.length l) fun i j => Enc.enc (List.getD l i Enc.dflt) j, AV.v (Value.int .i64 w), AV.v (Value.int .i64 d), AV.v (Value.int .i64 s), AV.v (Value.int .i64 q)] → bsplit q1 (bsplit (askE q3 w d s q != (0 : Int)) (2 = List.length [AV.junk, AV.junk] ∧ q4 ∧ IntKind.i64 = .i64 ∧ askE q3 w d s q = findE l w d s q) (bsplit q1 (bsplit (findR q5 w d s q == (0
 : Int)) (2 = List.length [AV.junk, AV.junk] ∧ q4 ∧ IntKind.i64 = .i64 ∧ (25 : Int) = findE l w d s q) (2 = List.length [AV.junk, AV.junk] ∧ (True ∧ IntKind.i64 = .i64 ∧ findR q5 w d s q = findV l w d s q) ∧ IntKind.i64 = .i64 ∧ (0 : Int) = findE l w d s q)) False)) False := by
  dsimp only
  intro hb
  have e2 : (Enc.dflt : Row) = r0 := rfl
  simp only [sS, agD_row, agOk_row, agD_row', agOk_row', okIn, okIn', deI, deI', okR, okR', deR, deR', deRo, deRo', e2]
  refine ⟨fun h => ?_, fun h => ⟨fun h2 => ?_, fun h2 => ?_⟩⟩
  · have e : findE l w d s q = askE l w d s q := by unfold findE; rw [bne_iff_ne.2 h]; rfl
    exact ⟨rfl, by unfold findV; rw [e, beq_false_of_ne h]; rfl, e.symm⟩
  · have e : findE l w d s q = 25 := by unfold findE; rw [h, h2]; rfl
    exact ⟨rfl, by unfold findV; rw [e]; rfl, e.symm⟩
  · have e : findE l w d s q = 0 := by unfold findE; rw [h, beq_false_of_ne h2]; rfl
    exact ⟨rfl, by unfold findV; rw [e]; rfl, e.symm⟩
theorem rfind_C (l : List Row) (w : Int) (d : Int) (s : Int) (q : Int) : PureCall Tryz.prog [] 34 [slE l, .i w, .i d, .i s, .i q] (.tup 2 (listFn [.i (findV l w d s q), .i (findE l w d s q)])) :=
  pure_of_vc (T := ((T0.plus 84 rstart_t).plus 80 rfnd_t)) (an := .auto) mixed (TbSound.plus (TbSound.plus tb0_sound rstart_T) rfnd_T) (Eq.mp (by kernel_rfl) (rfind_vc l w d s q))
theorem rfind_T : PureT Tryz.prog [] 34 rfind_t := by
  intro xs ps r h hp
  unfold rfind_t at h
  split at h
  · skip
    rename_i x_l w d s q
    cases h
    obtain ⟨q0, -⟩ := allC hp
    exact weaken (ys := [slE (slD (α := Row) x_l), .i w, .i d, .i s, .i q]) ⟨slE_sound q0, avM_refl _, avM_refl _, avM_refl _, avM_refl _, trivial⟩ (rfind_C (slD (α := Row) x_l) w d s q)
  · cases h
def fineB (c : Qu) : Bool := leB c.l.length 12 && leB c.sp.length 40 && ratE c.sp == 0 && !(c.sp.getD 0 0 == 45) && (findE c.l c.w c.d c.s c.q == 0 || findE c.l c.w c.d c.s c.q == 25)
noncomputable def Tfi (G : List (Nat × Obj)) : Tb := ((tb0 G).plus 12 r2check_t).plus 34 rfind_t
theorem Tfi_sound {G : List (Nat × Obj)} (hG : TabIn G) : TbSound Tryz.prog (Tfi G) := TbSound.plus (TbSound.plus tb0_sound (r2check_T hG)) (PureT.mono rfind_T)
def fine_t : List AV → Option (List Cond × AV)
  | [x_c] => some ([.b (agOk Qu x_c)], .b (fineB (agD (α := Qu) x_c)))
  | _ => none
theorem fine_vc (G : List (Nat × Obj)) (c : Qu) :
 let q2 := (ltB (12 : Int) (↑(List.length (Qu.l c)) : Int)); let q1 := (!bsel false q2 || bsel false q2); let q4 := (bif ltB (12 : Int) (↑(List.length (Qu.l c)) : Int) then true else ltB (40 : Int) (↑(List.length (Qu.sp c)) : Int)); let q3 := (!bsel false q4 || bsel false q4); let q6 := (bif bif ltB (12 : Int) (↑(List.length (Qu.l c)) : Int) then true else ltB (40 : Int) (↑(List.length (Qu.sp c)) : Int) then true else ratE (Qu.sp c) != (0 : Int)); let q5 := (!bsel false q6 || bsel false q6); let q7 := (AV.xl false 5 (List.length (Qu.l c)) fun i j => Enc.enc (List.getD (Qu.l c) i Enc.dflt) j);
 let q9 := (slD q7); let q8 := (findE q9 (Qu.w c) (Qu.d c) (Qu.s c) (Qu.q c) == (0 : Int)); bndL [AV.agg 6 (Enc.enc c)] → bsplit q1 (bsplit q1 (bsplit q1 (bsplit (!!ltB (12 : Int) (↑(List.length (Qu.l c)) : Int) || bsel false q2) (bsplit q3 (bsplit q3 ((bsel false q4 = true → List.length (Qu.sp c) ≤ 100000000) ∧ bsplit q3 (bsplit ((!!bif ltB (12 : Int) (↑(List.length (Qu.l c)) : Int) then true else ltB (40 : Int) (↑(List.length (Qu.sp c)) : Int)) || bsel false q4) (bsplit q5 (bsplit q5 (bsplit (!bsel false q6 || DB.db ((0 : Int) ≤ (0 : Int) ∧ (0 : Int) < (↑(List.length (Qu.sp c)) : Int)))
 (bsplit q5 (bsplit ((!!bif bif ltB (12 : Int) (↑(List.length (Qu.l c)) : Int) then true else ltB (40 : Int) (↑(List.length (Qu.sp c)) : Int) then true else ratE (Qu.sp c) != (0 : Int)) || bsel false q6) (bsplit (bif bif bif ltB (12 : Int) (↑(List.length (Qu.l c)) : Int) then true else ltB (40 : Int) (↑(List.length (Qu.sp c)) : Int) then true else ratE (Qu.sp c) != (0 : Int) then true else (↑(UInt8.toNat (List.getD (Qu.sp c) 0 (0 : UInt8))) : Int) == (45 : Int)) (false = fineB c) (bsplit (slOk Row q7) (bsplit (!bsel false q8 || bsel false q8) (bsplit (!!findE q9 (Qu.w c) (Qu.d c) (Qu.s c) (Qu.q
 c) == (0 : Int) || bsel false q8) ((bif findE q9 (Qu.w c) (Qu.d c) (Qu.s c) (Qu.q c) == (0 : Int) then true else findE q9 (Qu.w c) (Qu.d c) (Qu.s c) (Qu.q c) == (25 : Int)) = fineB c) False) False) False)) False) False) False) False) False) False) False) False) False) False) False) False) False := by
  dsimp only
  intro hb
  have e2 : (Enc.dflt : Row) = r0 := rfl
  simp only [↓vc_db, ↓vc_gdb, row_one]
  simp only [sS, agD_row, agOk_row, agD_row', agOk_row', okIn, okIn', deI, deI', okR, okR', deR, deR', deRo, deRo', e2]
  have pos : ratE c.sp = 0 → 0 < c.sp.length := fun h => by
    obtain ⟨h1, _⟩ := ratE_zero.1 h
    match c.sp, h1 with
    | [], h1 => cases h1
    | x :: r, _ => simp
  rw [show (((c.sp.getD 0 0).toNat : Int) == 45) = (c.sp.getD 0 0 == 45) from byte_eq (c.sp.getD 0 0) 45 (by decide)]
  refine ⟨fun h => ?_, fun h => ⟨Int.le_refl _, ?_⟩, bsplit_iff.2 ⟨fun h => ?_, fun h => ?_⟩⟩
  · rw [Bool.not_eq_true', Bool.or_eq_false_iff, Bool.eq_false_iff, Bool.eq_false_iff, Ne, Ne, ltB_iff, ltB_iff] at h; omega
  · rw [Bool.not_eq_true', Bool.or_eq_false_iff, bne_eq_false_iff_eq] at h
    have := pos h.2
    omega
  · unfold fineB
    refine (Bool.eq_false_iff.2 fun e => ?_).symm
    simp only [Bool.and_eq_true, Bool.not_eq_true', beq_iff_eq, leB_iff] at e
    rw [e.1.2, e.1.1.2, show ltB 12 (c.l.length : Int) = false by rw [Bool.eq_false_iff, Ne, ltB_iff]; omega, show ltB 40 (c.sp.length : Int) = false by rw [Bool.eq_false_iff, Ne, ltB_iff]; omega] at h
    cases h
  · unfold fineB
    simp only [Bool.or_eq_false_iff, bne_eq_false_iff_eq] at h
    obtain ⟨⟨⟨h1, h2⟩, h3⟩, h4⟩ := h
    rw [Bool.eq_false_iff, Ne, ltB_iff] at h1 h2
    rw [h3, h4, (leB_iff _ _).2 (by omega), (leB_iff _ _).2 (by omega)]
    rfl
theorem fine_C {G : List (Nat × Obj)} (hG : TabIn G) (c : Qu) : PureCall Tryz.prog G 11 [agE c] (.b (fineB c)) :=
  pure_of_vc (T := (Tfi G)) (an := .auto) mixed (Tfi_sound hG) (Eq.mp (by kernel_rfl) (fine_vc G c))
theorem fine_T {G : List (Nat × Obj)} (hG : TabIn G) : PureT Tryz.prog G 11 fine_t := by
  intro xs ps r h hp
  unfold fine_t at h
  split at h
  · skip
    rename_i x_c
    cases h
    obtain ⟨q0, -⟩ := allC hp
    exact weaken (ys := [agE (agD (α := Qu) x_c)]) ⟨agE_sound q0, trivial⟩ (fine_C hG (agD (α := Qu) x_c))
  · cases h
theorem agD_qu (c : Qu) : agD (.agg 6 fun i => Enc.enc c i) = c := agD_agE c
theorem agOk_qu (c : Qu) : agOk Qu (.agg 6 fun i => Enc.enc c i) = true := agOk_agE c
end Go.Te

namespace Go.Te
open Go Go.Sx Go.Proofs Go.Ar
set_option maxRecDepth 100000
set_option maxHeartbeats 4000000
def lnE (a : Str) : Int := bif ratE a != 0 then ratE a else bif a.getD 0 0 == 45 then 2 else 0
theorem rat_pos {a : Str} (h : ratE a = 0) : 0 < a.length := by
  obtain ⟨h1, _⟩ := ratE_zero.1 h
  match a, h1 with
  | [], h1 => cases h1
  | x :: r, _ => simp
def csp_t : List AV → Option (List Cond × AV)
  | [.str a] => some ([.p (a.length ≤ 4294967280)], .i (lnE a))
  | _ => none
theorem csp_vc (G : List (Nat × Obj)) (a : List UInt8) (hl : a.length ≤ 4294967280) :
 bndL [AV.str a] → List.length a ≤ 4294967280 ∧ bsplit (ratE a != (0 : Int)) (IntKind.i64 = .i64 ∧ ratE a = lnE a) (bsplit (DB.db ((0 : Int) ≤ (0 : Int) ∧ (0 : Int) < (↑(List.length a) : Int))) (bsplit ((↑(UInt8.toNat (List.getD a 0 (0 : UInt8))) : Int) == (45 : Int)) (IntKind.i64 = .i64 ∧ (2 : Int) = lnE a) (IntKind.i64 = .i64 ∧ (0 : Int) = lnE a)) False) := by
  intro hb
  simp only [sS, agD_row, agOk_row, agD_row', agOk_row', okIn, okIn', deI, deI', okR, okR', deR, deR', deRo, deRo', ltB_nat]
  have e45 : (((a.getD 0 0).toNat : Int) = 45) ↔ (a.getD 0 0 == 45) = true := by
    have := byte_eq (a.getD 0 0) 45 (by decide)
    rw [← beq_iff_eq (a := ((a.getD 0 0).toNat : Int)) (b := 45)]
    rw [show (((a.getD 0 0).toNat : Int) == 45) = (a.getD 0 0 == 45) from this]
  unfold lnE
  refine ⟨hl, fun h => by rw [bne_iff_ne.2 h]; rfl, fun h => ⟨⟨Int.le_refl _, by have := rat_pos h; omega⟩, fun h2 => ?_, fun h2 => ?_⟩⟩
  · rw [h, e45.1 h2]; rfl
  · rw [h, show (a.getD 0 0 == 45) = false from Bool.eq_false_iff.2 fun e => h2 (e45.2 e)]; rfl
theorem csp_C {G : List (Nat × Obj)} (hG : TabIn G) (a : List UInt8) (hl : a.length ≤ 4294967280) : PureCall Tryz.prog G 56 [.str a] (.i (lnE a)) :=
  pure_of_vc (T := (tb0 G).plus 110 rchk_t) (an := .auto) mixed (TbSound.plus tb0_sound (rchk_T hG)) (Eq.mp (by kernel_rfl) (csp_vc G a hl))
theorem csp_T {G : List (Nat × Obj)} (hG : TabIn G) : PureT Tryz.prog G 56 csp_t := by
  intro xs ps r h hp
  unfold csp_t at h
  split at h
  · skip
    rename_i a
    cases h
    obtain ⟨q0, -⟩ := allC hp
    exact weaken (ys := [.str a]) ⟨avM_refl _, trivial⟩ (csp_C hG a q0)
  · cases h
theorem rat_itoa {n : Int} (h : inK .i64 n) : ratE (Lib.itoa n) = 0 ∧ ratN (Lib.itoa n) = n ∧ ratD (Lib.itoa n) = 1 ∧ (Lib.itoa n).length ≤ 21 := by
  have hs : showR n 1 = Lib.itoa n := by unfold showR; show Lib.itoa n ++ [] = _; rw [List.append_nil]
  obtain ⟨p1, p2, p3, p4, p5⟩ := showR_parts n (d := 1) (by omega)
  rw [hs] at p1 p2 p3 p4 p5
  simp only [inK] at h
  have hn : nDg n ≤ 20 := nDg_le (by omega) (by omega)
  refine ⟨ratE_zero.2 ⟨p1, by omega, by rw [p5]; simp, by rw [p3]; exact Nat.gcd_one_right _⟩, p2, p3, ?_⟩
  rw [itoa_len]
  split <;> omega
def of1_t : List AV → Option (List Cond × AV)
  | [.v (.int .i64 n), .v (.int .i64 d)] => some ([.b (d == 1), .p (inK .i64 n)], .tup 2 (listFn [.str (Lib.itoa n), .i 0]))
  | _ => none
theorem of1_T {G : List (Nat × Obj)} (hG : TabIn G) : PureT Tryz.prog G 89 of1_t := by
  intro xs ps r h hp
  unfold of1_t at h
  split at h
  · rename_i n d
    cases h
    have q : (d == 1) = true := hp _ List.mem_cons_self
    have q1 : inK .i64 n := hp _ (List.mem_cons_of_mem _ List.mem_cons_self)
    obtain rfl := eq_of_beq q
    exact of1_C hG n q1
  · cases h
def fitE (n : Int) (a : Str) : Int := rcE a (Lib.itoa n)
def fitB (n : Int) (a : Str) : Bool := fitE n a == 0 && ltB 0 n && leB (ratN a) (n * (ratD a : Int))
def sfits_t : List AV → Option (List Cond × AV)
  | [.v (.int .i64 n), .str a] => some ([.p (inK .i64 n), .p (a.length ≤ 4294967280), .p (ratE a = 0)], .tup 2 (listFn [.b (fitB n a), .i (fitE n a)]))
  | _ => none
theorem sfits_vc (G : List (Nat × Obj)) (n : Int) (a : List UInt8) (hn : inK .i64 n) (hl : a.length ≤ 4294967280) (hr : ratE a = 0) :
 bndL [AV.v (Value.int .i64 n), AV.str a] → ((-9223372036854775808 : Int) ≤ n ∧ n ≤ (9223372036854775807 : Int)) ∧ List.length a ≤ 4294967280 ∧ List.length (Lib.itoa n) ≤ 4294967280 ∧ bsplit (!bsel true (rcE a (Lib.itoa n) == (0 : Int)) || bsel true (rcE a (Lib.itoa n) == (0 : Int))) (bsplit (!rcE a (Lib.itoa n) == (0 : Int) || bsel true (rcE a (Lib.itoa n) == (0 : Int))) (bsplit (!bsel true (bif rcE a (Lib.itoa n) == (0 : Int) then ltB (0 : Int) n else false) || bsel true (bif rcE a (Lib.itoa n) == (0 : Int) then ltB (0 : Int) n else false)) (bsplit ((!bif rcE a (Lib.itoa n) == (0 : Int) then
 ltB (0 : Int) n else false) || bsel true (bif rcE a (Lib.itoa n) == (0 : Int) then ltB (0 : Int) n else false)) (2 = List.length [AV.junk, AV.junk] ∧ (True ∧ (bif bif rcE a (Lib.itoa n) == (0 : Int) then ltB (0 : Int) n else false then leB (rcV a (Lib.itoa n)) (0 : Int) else false) = fitB n a) ∧ IntKind.i64 = .i64 ∧ rcE a (Lib.itoa n) = fitE n a) False) False) False) False := by
  intro hb
  simp only [sS, agD_row, agOk_row, agD_row', agOk_row', okIn, okIn', deI, deI', okR, okR', deR, deR', deRo, deRo', ltB_nat]
  obtain ⟨r1, r2, r3, r4⟩ := rat_itoa hn
  refine ⟨hn, hl, by omega, rfl, ?_, rfl⟩
  unfold fitB fitE
  cases he : rcE a (Lib.itoa n) == 0 with
  | false => rfl
  | true =>
    rw [rc_E (eq_of_beq he), r2, r3]
    have : leB (cmpI (ratN a * ((1 : Nat) : Int)) (n * (ratD a : Int))) 0 = leB (ratN a) (n * (ratD a : Int)) := by
      rw [Bool.eq_iff_iff, leB_iff, leB_iff, show ratN a * ((1 : Nat) : Int) = ratN a from Int.mul_one _]
      unfold cmpI
      generalize n * (ratD a : Int) = m
      by_cases h1 : ratN a < m
      · rw [(ltB_iff _ _).2 h1]; simp; omega
      · rw [show ltB (ratN a) m = false from Bool.eq_false_iff.2 fun e => h1 ((ltB_iff _ _).1 e)]
        by_cases h2 : ratN a = m
        · rw [h2, beq_self_eq_true]; simp
        · rw [beq_eq_false_iff_ne.2 h2]; simp; omega
    rw [this]
theorem sfits_C {G : List (Nat × Obj)} (hG : TabIn G) (n : Int) (a : List UInt8) (hn : inK .i64 n) (hl : a.length ≤ 4294967280) (hr : ratE a = 0) : PureCall Tryz.prog G 57 [.i n, .str a] (.tup 2 (listFn [.b (fitB n a), .i (fitE n a)])) :=
  pure_of_vc (T := ((tb0 G).plus 89 of1_t).plus 90 rCmp_t) (an := .auto) mixed (TbSound.plus (TbSound.plus tb0_sound (of1_T hG)) (rCmp_T hG)) (Eq.mp (by kernel_rfl) (sfits_vc G n a hn hl hr))
theorem sfits_T {G : List (Nat × Obj)} (hG : TabIn G) : PureT Tryz.prog G 57 sfits_t := by
  intro xs ps r h hp
  unfold sfits_t at h
  split at h
  · skip
    rename_i n a
    cases h
    obtain ⟨q0, q1, q2, -⟩ := allC hp
    exact weaken (ys := [.i n, .str a]) ⟨avM_refl _, avM_refl _, trivial⟩ (sfits_C hG n a q0 q1 q2)
  · cases h
theorem find_bound {l : List Row} {w d s q : Int} (h : tabE l = 0) : 0 ≤ findR l w d s q ∧ findR l w d s q ≤ 1073741824 := by
  refine ⟨findZ_nonneg _ _ _ _ _ _, findZ_le (by omega) fun i hi => ?_⟩
  obtain ⟨_, h2⟩ := rowE_ok ((tabE_ok h).2 i hi)
  have := between_iff.1 h2
  omega
def alE (l : List Row) (w d s q : Int) (a : Str) : Int := bif askE l w d s q != 0 then askE l w d s q else bif lnE a != 0 then lnE a else fitE (findR l w d s q) a
def alB (l : List Row) (w d s q : Int) (a : Str) : Bool := bif askE l w d s q != 0 then false else bif lnE a != 0 then false else fitB (findR l w d s q) a
def sallow_t : List AV → Option (List Cond × AV)
  | [x_l, .v (.int .i64 w), .v (.int .i64 d), .v (.int .i64 s), .v (.int .i64 q), .str a] => some ([.b (slOk Row x_l), .p (a.length ≤ 4294967280)], .tup 2 (listFn [.b (alB (slD (α := Row) x_l) w d s q a), .i (alE (slD (α := Row) x_l) w d s q a)]))
  | _ => none
theorem sallow_vc (G : List (Nat × Obj)) (l : List Row) (w : Int) (d : Int) (s : Int) (q : Int) (a : List UInt8) (hl : a.length ≤ 4294967280) :
 let q2 := (AV.xl false 5 (List.length l) fun i j => Enc.enc (List.getD l i Enc.dflt) j); let q1 := (slOk Row q2); let q3 := (rowsOf q2); let q4 := (findR q3 w d s q); bndL [AV.xl false 5 (List.length l) fun i j => Enc.enc (List.getD l i Enc.dflt) j, AV.v (Value.int .i64 w), AV.v (Value.int .i64 d), AV.v (Value.int .i64 s), AV.v (Value.int .i64 q), AV.str a] → bsplit q1 (bsplit (askE q3 w d s q != (0 : Int)) (2 = List.length [AV.junk, AV.junk] ∧ (True ∧ false = alB l w d s q a) ∧ IntKind.i64 = .i64 ∧ askE q3 w d s q = alE l w d s q a) (List.length a ≤ 4294967280 ∧ bsplit (lnE a != (0 : Int)) (2
 = List.length [AV.junk, AV.junk] ∧ (True ∧ false = alB l w d s q a) ∧ IntKind.i64 = .i64 ∧ lnE a = alE l w d s q a) (bsplit q1 (((-9223372036854775808 : Int) ≤ findR q3 w d s q ∧ findR q3 w d s q ≤ (9223372036854775807 : Int)) ∧ List.length a ≤ 4294967280 ∧ ratE a = (0 : Int) ∧ 2 = List.length [AV.junk, AV.junk] ∧ (True ∧ fitB q4 a = alB l w d s q a) ∧ IntKind.i64 = .i64 ∧ fitE q4 a = alE l w d s q a) False))) False := by
  dsimp only
  intro hb
  have e2 : (Enc.dflt : Row) = r0 := rfl
  simp only [sS, agD_row, agOk_row, agD_row', agOk_row', okIn, okIn', deI, deI', okR, okR', deR, deR', deRo, deRo', e2]
  refine ⟨fun h => ?_, fun h => ⟨hl, fun h2 => ?_, fun h2 => ?_⟩⟩
  · unfold alB alE
    rw [bne_iff_ne.2 h]
    exact ⟨rfl, rfl, rfl⟩
  · unfold alB alE
    rw [h, bne_iff_ne.2 h2]
    exact ⟨rfl, rfl, rfl⟩
  · have ht : tabE l = 0 := by
      refine Decidable.byContradiction fun e => ?_
      unfold askE at h
      rw [bne_iff_ne.2 e] at h
      cases h
    have hr : ratE a = 0 := by
      refine Decidable.byContradiction fun e => ?_
      unfold lnE at h2
      rw [bne_iff_ne.2 e] at h2
      exact e h2
    have hb := find_bound (w := w) (d := d) (s := s) (q := q) ht
    unfold alB alE
    rw [h, h2]
    exact ⟨⟨by omega, by omega⟩, hl, hr, rfl, rfl, rfl⟩
theorem sallow_C {G : List (Nat × Obj)} (hG : TabIn G) (l : List Row) (w : Int) (d : Int) (s : Int) (q : Int) (a : List UInt8) (hl : a.length ≤ 4294967280) : PureCall Tryz.prog G 15 [slE l, .i w, .i d, .i s, .i q, .str a] (.tup 2 (listFn [.b (alB l w d s q a), .i (alE l w d s q a)])) :=
  pure_of_vc (T := ((((tb0 G).plus 55 ask_t).plus 56 csp_t).plus 58 allowed_t).plus 57 sfits_t) (an := .auto) mixed (TbSound.plus (TbSound.plus (TbSound.plus (TbSound.plus tb0_sound (PureT.mono ask_T)) (csp_T hG)) (PureT.mono allowed_T)) (sfits_T hG)) (Eq.mp (by kernel_rfl) (sallow_vc G l w d s q a hl))
theorem sallow_T {G : List (Nat × Obj)} (hG : TabIn G) : PureT Tryz.prog G 15 sallow_t := by
  intro xs ps r h hp
  unfold sallow_t at h
  split at h
  · skip
    rename_i x_l w d s q a
    cases h
    obtain ⟨q0, q1, -⟩ := allC hp
    exact weaken (ys := [slE (slD (α := Row) x_l), .i w, .i d, .i s, .i q, .str a]) ⟨slE_sound q0, avM_refl _, avM_refl _, avM_refl _, avM_refl _, avM_refl _, trivial⟩ (sallow_C hG (slD (α := Row) x_l) w d s q a q1)
  · cases h
end Go.Te

namespace Go.Te
open Go Go.Sx Go.Proofs Go.Ar
set_option maxRecDepth 100000
set_option maxHeartbeats 4000000
section
variable {H : Type} {enc : TypeId × Value → H} {W : World} {spare : Nat → Bool} {held : Bool}
end
theorem rat_len {a : Str} (hr : ratE a = 0) (hl : a.length ≤ 40) : (ratN a).natAbs < 10 ^ 40 ∧ ratD a < 10 ^ 40 ∧ 0 < ratD a := by
  obtain ⟨g1, g2, g3⟩ := form_iff.1 (rat_form hr)
  have l1 := cutN_len (ownS a)
  have l2 := cutD_len (ownS a)
  have l3 := ownS_len a
  refine ⟨by rw [ratN_abs]; exact decV_bound g1 (by omega), ?_, ratD_pos (ratE_zero.1 hr).1⟩
  rw [(own_cut (a := a)).2]
  cases hs : slashB (ownS a) with
  | false => show 1 < 10 ^ 40; decide
  | true => exact decV_bound (g3 hs).1 (by omega)
theorem al_ok {l : List Row} {w d s q : Int} {a : Str} (hA : askE l w d s q = 0) (hr : ratE a = 0) (h45 : (a.getD 0 0 == 45) = false) (hl : a.length ≤ 40) :
    alE l w d s q a = 0 ∧ alB l w d s q a = (ltB 0 (findR l w d s q) && leB (ratN a) (findR l w d s q * (ratD a : Int))) := by
  have ht : tabE l = 0 := by
    refine Decidable.byContradiction fun e => ?_
    unfold askE at hA
    rw [bne_iff_ne.2 e] at hA
    cases hA
  have hn := find_bound (w := w) (d := d) (s := s) (q := q) ht
  have hL : lnE a = 0 := by unfold lnE; rw [hr, h45]; rfl
  obtain ⟨b1, b2, b3⟩ := rat_len hr hl
  unfold alE alB fitB fitE
  rw [hA, hL]
  generalize findR l w d s q = n at *
  obtain ⟨i1, i2, i3, _⟩ := rat_itoa (n := n) ⟨by omega, by omega⟩
  have e1 : resE (ratN a * (ratD (Lib.itoa n) : Int)) = 0 := by
    rw [i3, show ratN a * ((1 : Nat) : Int) = ratN a from Int.mul_one _]
    exact (res_small (k := 40) (by omega) (by omega) b1).2
  have e2 : resE (ratN (Lib.itoa n) * (ratD a : Int)) = 0 := by
    rw [i2]
    refine (res_small (k := 50) (by omega) (by omega) ?_).2
    rw [Int.natAbs_mul, Int.natAbs_natCast, show 10 ^ 50 = 10 ^ 10 * 10 ^ 40 from Nat.pow_add 10 10 40]
    exact Nat.mul_lt_mul'' (by omega) b2
  have e : rcE a (Lib.itoa n) = 0 := by rw [rc_D hr i1 e1, e2]
  rw [e]
  exact ⟨rfl, rfl⟩
theorem fine_ask {c : Qu} (h : fineB c = true) : askE c.l c.w c.d c.s c.q = 0 ∧ ratE c.sp = 0 ∧ (c.sp.getD 0 0 == 45) = false ∧ c.sp.length ≤ 40 := by
  unfold fineB at h
  simp only [Bool.and_eq_true, Bool.not_eq_true', Bool.or_eq_true, beq_iff_eq, leB_iff] at h
  obtain ⟨⟨⟨⟨h1, h2⟩, h3⟩, h4⟩, h5⟩ := h
  refine ⟨?_, h3, by simpa using h4, by omega⟩
  unfold findE at h5
  unfold askE at h5 ⊢
  cases ht : tabE c.l != 0 with
  | true =>
    rw [ht] at h5
    simp at h5
  | false =>
    rw [ht] at h5
    cases hr : rangB c.w c.d c.s c.q with
    | true => rfl
    | false =>
      rw [hr] at h5
      simp at h5
theorem ask_split {l : List Row} {w d s q : Int} : askE l w d s q = 0 ↔ tabE l = 0 ∧ (1 ≤ w ∧ w ≤ 1000) ∧ (1 ≤ d ∧ d ≤ 1000) ∧ (1 ≤ s ∧ s ≤ 65536) ∧ (0 ≤ q ∧ q ≤ 1048576) := by
  have hr : rangB w d s q = true ↔ (1 ≤ w ∧ w ≤ 1000) ∧ (1 ≤ d ∧ d ≤ 1000) ∧ (1 ≤ s ∧ s ≤ 65536) ∧ (0 ≤ q ∧ q ≤ 1048576) := by
    unfold rangB condB
    rw [Bool.and_eq_true, Bool.and_eq_true, Bool.and_eq_true, between_iff, between_iff, between_iff, between_iff]
    constructor
    · rintro ⟨⟨a, b⟩, c, d⟩; exact ⟨a, b, c, d⟩
    · rintro ⟨a, b, c, d⟩; exact ⟨⟨a, b⟩, c, d⟩
  rw [← hr]
  unfold askE
  cases ht : tabE l != 0 with
  | true =>
    rw [bne_iff_ne] at ht
    exact ⟨fun h => (by cases h), fun h => absurd h.1 ht⟩
  | false =>
    rw [bne_eq_false_iff_eq] at ht
    cases hq : rangB w d s q with
    | true => exact ⟨fun _ => ⟨ht, rfl⟩, fun _ => rfl⟩
    | false => exact ⟨fun h => (by cases h), fun h => (by cases h.2)⟩
end Go.Te
