/- kingpostref02: Check. -/
import Derived.Test.YtdkpceodckdcfaaGreatDoorTeIj
set_option linter.unusedSimpArgs false
set_option linter.unusedVariables false
namespace Go.Te
open Go Go.Sx Go.Proofs Go.Ar Go.Lib
set_option maxRecDepth 100000
set_option maxHeartbeats 4000000
noncomputable def T2a (G : List (Nat × Obj)) : Tb := (((((tb0 G).plus 45 r2split_t).plus 46 r2digits_t).plus 48 r2small_t).plus 47 r2gcd_t).plus 49 r1gcd_t
theorem T2a_sound {G : List (Nat × Obj)} (hG : TabIn G) : TbSound Tryz.prog (T2a G) :=
 TbSound.plus (TbSound.plus (TbSound.plus (TbSound.plus (TbSound.plus tb0_sound (PureT.mono r2split_T)) (PureT.mono r2digits_T)) (PureT.mono r2small_T)) (PureT.mono r2gcd_T)) (r1gcd_T hG)
def r2check_t : List AV → Option (List Cond × AV)
 | [.str a] => some ([.p (a.length ≤ 100000000)], .i (ratE a))
 | _ => none
theorem r2check_vc (G : List (Nat × Obj)) (a : List UInt8) (hl : a.length ≤ 100000000) :
 let q1 := (!bsel false !digS (cutN (ownS a)) || bsel false !digS (cutN (ownS a))); let q3 := (bsel false !digS (cutN (ownS a)) && bsel true (slashB (ownS a))); let q2 := (!q3 || bsel false !digS (cutN (ownS a)) && bsel true (slashB (ownS a))); let q5 := (ByteArray.data (ByteArray.mk #[(48 : UInt8)])); let q4 := (bif !digS (cutD (ownS a)) then true else cutD (ownS a) == Array.toList q5); let q8 := (ByteArray.data (ByteArray.mk #[(49 : UInt8)])); let q7 := (bif !digS (cutN (ownS a)) then true else bif slashB (ownS a) then bif bif !digS (cutD (ownS a)) then true else cutD (ownS a) == Array.toList
 q5 then true else cutD (ownS a) == Array.toList q8 else false); let q6 := (!bsel false q7 || bsel false q7); let q9 := (kI ∧ (11 : Int) = ratE a); let q11 := (ltB (300 : Int) (lZ (cutN (ownS a)))); let q10 := (!bsel false q11 || bsel false q11); let q12 := (kI ∧ iZ = ratE a); let q14 := (leB (lZ (cutN (ownS a))) (9 : Int)); let q13 := (!bsel true q14 || bsel true q14); bndL [AV.str a] → lN a ≤ 4294967280 ∧ lN (cutN (ownS a)) ≤ 4294967280 ∧ bsplit q1 (bsplit q2 ((q3 = true → lN (cutD (ownS a)) ≤
 4294967280) ∧ bsplit q2 (bsplit q2 (bsplit (!(bsel false !digS (cutN (ownS a)) && bsel true (slashB (ownS a)) && bsel false !digS (cutD (ownS a))) || bsel false !digS (cutN (ownS a)) && bsel true (slashB (ownS a)) && bsel false !digS (cutD (ownS a))) (bsplit q2 (bsplit (!q3 || (!!!digS (cutD (ownS a)) || bsel false !digS (cutN (ownS a)) && bsel true (slashB (ownS a)) && bsel false !digS (cutD (ownS a)))) (bsplit q2 (bsplit (!(bsel false !digS (cutN (ownS a)) && bsel true (slashB (ownS a)) && bsel false q4) || bsel false !digS (cutN (ownS a)) && bsel true (slashB (ownS a)) && bsel false q4)
 (bsplit q2 (bsplit (!q3 || ((!!bif !digS (cutD (ownS a)) then true else cutD (ownS a) == Array.toList q5) || bsel false !digS (cutN (ownS a)) && bsel true (slashB (ownS a)) && bsel false q4)) (bsplit q1 (bsplit (!bsel false !digS (cutN (ownS a)) || (!slashB (ownS a) || bsel false !digS (cutN (ownS a)) && bsel true (slashB (ownS a)))) (bsplit (!!!digS (cutN (ownS a)) || bsel false !digS (cutN (ownS a))) (bsplit q6 (bsplit (!(bsel false q7 && bsel true (minB a)) || bsel false q7 && bsel true (minB a)) (bsplit q6 (bsplit (!bsel false q7 || (!minB a || bsel false q7 && bsel true (minB a))) (bsplit
 ((!!bif !digS (cutN (ownS a)) then true else bif slashB (ownS a) then bif bif !digS (cutD (ownS a)) then true else cutD (ownS a) == Array.toList q5 then true else cutD (ownS a) == Array.toList q8 else false) || bsel false q7) (bsplit (bif bif !digS (cutN (ownS a)) then true else bif slashB (ownS a) then bif bif !digS (cutD (ownS a)) then true else cutD (ownS a) == Array.toList q5 then true else cutD (ownS a) == Array.toList q8 else false then true else bif minB a then cutN (ownS a) == Array.toList q5 else false) q9 (bsplit q10 (bsplit q10 (bsplit (!!ltB (300 : Int) (lZ (cutN (ownS
 a))) || bsel false q11) (bsplit (bif ltB (300 : Int) (lZ (cutN (ownS a))) then true else ltB (300 : Int) (lZ (cutD (ownS a)))) (kI ∧ (4 : Int) = ratE a) (bsplit (!slashB (ownS a)) q12 (bsplit q13 (bsplit q13 (bsplit (!leB (lZ (cutN (ownS a))) (9 : Int) || bsel true q14) (bsplit (bif leB (lZ (cutN (ownS a))) (9 : Int) then leB (lZ (cutD (ownS a))) (9 : Int) else false) (digS (cutN (ownS a)) = true ∧ lN (cutN (ownS a)) ≤ 18 ∧ digS (cutD (ownS a)) = true ∧ lN (cutD
 (ownS a)) ≤ 18 ∧ (iZ ≤ (↑(decV (cutN (ownS a))) : Int) ∧ (↑(decV (cutN (ownS a))) : Int) ≤ iX) ∧ (iZ ≤ (↑(decV (cutD (ownS a))) : Int) ∧ (↑(decV (cutD (ownS a))) : Int) ≤ iX) ∧ bsplit ((↑(Nat.gcd (Int.toNat (↑(decV (cutN (ownS a))) : Int)) (Int.toNat (↑(decV (cutD (ownS a))) : Int))) : Int) != iO) q9 q12) (lN (cutN (ownS a)) ≤ 100000000 ∧ lN (cutD (ownS a)) ≤ 100000000 ∧ bsplit (!(bif bothE (cutN (ownS a)) (cutD (ownS a)) != iZ then [] else itoa (↑(gcdN (cutN (ownS a)) (cutD (ownS a))) : Int)) ==
 Array.toList q8) q9 q12)) False) False) False))) False) False) False)) False) False) False) False) False) False) False) False) False) False) False) False) False) False) False) False) False) False) False := by
 delta kI lZ lN iZ iO iX
 dsimp only
 intro hb
 simp only [sS, dS, ltB_nat]
 have lo := ownS_len a
 have ln := cutN_len (ownS a)
 have ld := cutD_len (ownS a)
 have hF : formO a = (digS (cutN (ownS a)) && !(minB a && cutN (ownS a) == [48]) && (!slashB (ownS a) || digS (cutD (ownS a)) && !(cutD (ownS a) == [48]) && !(cutD (ownS a) == [49]))) := rfl
 have eB := @ratE_bad a
 have eL := @ratE_long a
 have eG := @ratE_gcd a
 have eI := @ratE_int a
 generalize hn : cutN (ownS a) = n at *
 generalize hd : cutD (ownS a) = d at *
 generalize slashB (ownS a) = sl at *
 generalize minB a = m at *
 refine ⟨by omega, by omega, fun _ => by omega, ?_⟩
 refine bsp_t (by cases digS n <;> cases sl <;> cases digS d <;> rfl) ?_
 refine bsp_t (by cases digS n <;> cases sl <;> cases digS d <;> cases d == [48] <;> rfl) ?_
 refine bsp_t (by cases digS n <;> cases sl <;> rfl) ?_
 refine bsp_t (by cases digS n <;> cases sl <;> cases digS d <;> cases d == [48] <;> cases d == [49] <;> cases m <;> rfl) ?_
 refine bsplit_iff.2 ⟨fun c => (eB ?_).symm, fun c => ?_⟩
 ·rw [hF]
  revert c
  cases digS n <;> cases sl <;> cases digS d <;> cases d == [48] <;> cases d == [49] <;> cases m <;> cases n == [48] <;> decide
 have hT : formO a = true := by
  rw [hF]
  revert c
  cases digS n <;> cases sl <;> cases digS d <;> cases d == [48] <;> cases d == [49] <;> cases m <;> cases n == [48] <;> decide
 refine bsplit_iff.2 ⟨fun c2 => (eL hT ?_).symm, fun c2 => ?_⟩
 ·rw [Bool.or_eq_true, ltB_iff, ltB_iff] at c2; omega
 have h3 : n.length ≤ 300 ∧ d.length ≤ 300 := by
  rw [Bool.or_eq_false_iff, Bool.eq_false_iff, Bool.eq_false_iff, Ne, Ne, ltB_iff, ltB_iff] at c2; omega
 refine bsplit_iff.2 ⟨fun c3 => (eI hT h3.1 (by simpa using c3)).symm, fun c3 => ?_⟩
 have hs : sl = true := by simpa using c3
 have e2 := eG hT h3 hs
 have hdn : digS n = true := by
  rw [hT] at hF
  revert hF
  cases digS n <;> simp
 have hdd : digS d = true := by
  rw [hT, hs] at hF
  revert hF
  cases digS d <;> simp
 refine bsplit_iff.2 ⟨fun c4 => ?_, fun c4 => ⟨by omega, by omega, ?_⟩⟩
 ·rw [Bool.and_eq_true, leB_iff, leB_iff] at c4
  have b1 := decV_bound hdn (k := 9) (by omega)
  have b2 := decV_bound hdd (k := 9) (by omega)
  refine ⟨hdn, by omega, hdd, by omega, ⟨by omega, by omega⟩, ⟨by omega, by omega⟩, fun h => ?_, fun h => ?_⟩
  ·rw [e2, show Nat.beq (Nat.gcd (decV n) (decV d)) 1 = false from Bool.eq_false_iff.2 fun e => h (by have := Nat.eq_of_beq_eq_true e; omega)]; rfl
  ·rw [e2, show Nat.beq (Nat.gcd (decV n) (decV d)) 1 = true by rw [show Nat.gcd (decV n) (decV d) = 1 by omega]; rfl]; rfl
 ·obtain ⟨i1, v1⟩ := intB_nat hdn
  obtain ⟨i2, v2⟩ := intB_nat hdd
  have hE : bothE n d = 0 := by
   have l1 := (lenD_le n).1
   have l2 := (lenD_le d).1
   have q1 : intE n = 0 := intE_zero.2 ⟨i1, by omega⟩
   have q2 : intE d = 0 := intE_zero.2 ⟨i2, by omega⟩
   unfold bothE
   rw [q1, q2]; rfl
  have hg : gcdN n d = Nat.gcd (decV n) (decV d) := by unfold gcdN; rw [v1, v2]; simp
  rw [hE, bne_self_eq_false, cond_false, hg, e2, Go.Ar.itoa_nat]
  have e1 : (decDigits (Nat.gcd (decV n) (decV d)) == [49]) = Nat.beq (Nat.gcd (decV n) (decV d)) 1 := by
   rw [Bool.eq_iff_iff, beq_iff_eq, Nat.beq_eq]
   constructor
   ·intro h
    have := congrArg decV h
    rw [decV_decDigits] at this
    exact this
   ·intro h
    rw [h, decDigits_small (by decide)]; rfl
  rw [e1]
  cases Nat.beq (Nat.gcd (decV n) (decV d)) 1
  ·exact rfl
  ·exact rfl
theorem r2check_C {G : List (Nat × Obj)} (hG : TabIn G) (a : List UInt8) (hl : a.length ≤ 100000000) : PureCall Tryz.prog G 12 [.str a] (.i (ratE a)) :=
 pure_of_vc (T := (T2a G)) (an := .auto) mixed (T2a_sound hG) (Eq.mp (by kernel_rfl) (r2check_vc G a hl))
theorem r2check_T {G : List (Nat × Obj)} (hG : TabIn G) : PureT Tryz.prog G 12 r2check_t := by
 intro xs ps r h hp
 unfold r2check_t at h
 split at h
 ·skip
  rename_i a
  cases h
  obtain ⟨q0, -⟩ := allC hp
  exact weaken (ys := [.str a]) ⟨avM_refl _, trivial⟩ (r2check_C hG a q0)
 ·cases h
end Go.Te

namespace Go.Te
open Go Go.Sx Go.Proofs Go.Ar
set_option maxRecDepth 100000
set_option maxHeartbeats 4000000
def natB (a : Str) : Bool := ratE a == 0 && leB ((cutN (ownS a)).length : Int) 8 && leB ((cutD (ownS a)).length : Int) 8
theorem tw_split (s : Str) : twD s ++ s.drop (twD s).length = s := by
 have h : s = s.takeWhile isDg ++ s.dropWhile isDg := (List.takeWhile_append_dropWhile).symm
 have gen : ∀ t u : Str, t ++ u = s → s.drop t.length = u := by
  rintro t u rfl
  exact List.drop_left
 have h2 : s.drop (twD s).length = s.dropWhile isDg := gen _ _ h.symm
 rw [h2]
 exact h.symm
theorem tw_all (s : Str) : ∀ c ∈ twD s, isDg c = true := fun c hc => List.all_eq_true.1 (List.all_takeWhile (l := s) (p := isDg)) c hc
theorem natOk_iff {s : Str} : natOk s = true ↔ digS (twD s) = true ∧ (twD s).length ≤ 8 := by
 unfold natOk
 rw [Bool.and_eq_true, leB_iff]
 exact ⟨fun h => ⟨h.1, by omega⟩, fun h => ⟨h.1, by omega⟩⟩
theorem nat_ok {s : Str} (h : natOk s = true) : natN s = (decV (twD s) : Int) ∧ natR s = s.drop (twD s).length ∧ twD s ++ natR s = s ∧ 0 ≤ natN s ∧ natN s ≤ 99999999 := by
 have e1 : natN s = (decV (twD s) : Int) := by unfold natN; rw [h]; rfl
 have e2 : natR s = s.drop (twD s).length := by unfold natR; rw [h]; rfl
 obtain ⟨h1, h2⟩ := natOk_iff.1 h
 have b := decV_bound h1 (k := 8) h2
 rw [show 10 ^ 8 = 100000000 from by decide] at b
 exact ⟨e1, e2, by rw [e2]; exact tw_split s, by omega, by omega⟩
theorem tw_digs {s : Str} (h : digS s = true) : twD s = s := by
 have := tw_app (a := s) (b := []) (digS_iff.1 h).2.1
 rw [List.append_nil] at this
 rw [this]
 show s ++ [] = s
 simp
theorem nat_digs {s : Str} (h : digS s = true) (hl : s.length ≤ 8) : natOk s = true ∧ natN s = (decV s : Int) ∧ natR s = [] := by
 have ht := tw_digs h
 have ho : natOk s = true := natOk_iff.2 (by rw [ht]; exact ⟨h, hl⟩)
 obtain ⟨n1, n2, _⟩ := nat_ok ho
 rw [ht] at n1 n2
 exact ⟨ho, n1, by rw [n2]; simp⟩
theorem nat_back {s : Str} (h : natOk s = true) (hr : natR s = []) : digS s = true ∧ s.length ≤ 8 ∧ natN s = (decV s : Int) := by
 obtain ⟨n1, n2, n3, _⟩ := nat_ok h
 rw [hr, List.append_nil] at n3
 obtain ⟨h1, h2⟩ := natOk_iff.1 h
 rw [n3] at h1 h2 n1
 exact ⟨h1, h2, n1⟩
theorem natB_iff {a : Str} : natB a = true ↔ formO a = true ∧ (cutN (ownS a)).length ≤ 8 ∧ (cutD (ownS a)).length ≤ 8 ∧ (slashB (ownS a) = true → Nat.gcd (decV (cutN (ownS a))) (decV (cutD (ownS a))) = 1) := by
 unfold natB
 rw [Bool.and_eq_true, Bool.and_eq_true, leB_iff, leB_iff, beq_iff_eq]
 constructor
 ·rintro ⟨⟨h1, h2⟩, h3⟩
  cases hf : formO a with
  | false => rw [ratE_bad hf] at h1; cases h1
  | true =>
   refine ⟨rfl, by omega, by omega, fun hs => ?_⟩
   rw [ratE_gcd hf ⟨by omega, by omega⟩ hs] at h1
   cases hg : Nat.beq (Nat.gcd (decV (cutN (ownS a))) (decV (cutD (ownS a)))) 1 with
   | true => exact Nat.eq_of_beq_eq_true hg
   | false => rw [hg] at h1; cases h1
 ·rintro ⟨h1, h2, h3, h4⟩
  refine ⟨⟨?_, by omega⟩, by omega⟩
  cases hs : slashB (ownS a) with
  | false => exact ratE_int h1 (by omega) hs
  | true =>
   rw [ratE_gcd h1 ⟨by omega, by omega⟩ hs, h4 hs]
   rfl
theorem form_iff {a : Str} : formO a = true ↔ digS (cutN (ownS a)) = true ∧ ¬ (minB a = true ∧ cutN (ownS a) = [48]) ∧ (slashB (ownS a) = true → digS (cutD (ownS a)) = true ∧ cutD (ownS a) ≠ [48] ∧ cutD (ownS a) ≠ [49]) := by
 unfold formO
 rw [Bool.and_eq_true, Bool.and_eq_true, Bool.not_eq_true', Bool.and_eq_false_iff, Bool.or_eq_true, Bool.and_eq_true, Bool.and_eq_true, Bool.not_eq_true', Bool.not_eq_true', Bool.not_eq_true', beq_eq_false_iff_ne, beq_eq_false_iff_ne, beq_eq_false_iff_ne]
 constructor
 ·rintro ⟨⟨h1, h2⟩, h3⟩
  refine ⟨h1, fun h => ?_, fun h => ?_⟩
  ·rcases h2 with h2 | h2
   ·rw [h.1] at h2; cases h2
   ·exact h2 h.2
  ·rcases h3 with h3 | h3
   ·rw [h] at h3; cases h3
   ·exact ⟨h3.1.1, h3.1.2, h3.2⟩
 ·rintro ⟨h1, h2, h3⟩
  refine ⟨⟨h1, ?_⟩, ?_⟩
  ·cases hm : minB a with
   | false => exact .inl rfl
   | true => exact .inr fun e => h2 ⟨hm, e⟩
  ·cases hs : slashB (ownS a) with
   | false => exact .inl rfl
   | true => have := h3 hs; exact .inr ⟨⟨this.1, this.2.1⟩, this.2.2⟩
theorem dec0 {s : Str} (h : digS s = true) : decV s = 0 ↔ s = [48] := ⟨fun e => decV_zero h e, fun e => by rw [e]; decide⟩
theorem dec1 {s : Str} (h : digS s = true) : decV s = 1 ↔ s = [49] := ⟨fun e => by
 have := decDigits_decV h
 rw [e, decDigits_small (by omega)] at this
 exact this.symm, fun e => by rw [e]; decide⟩
structure NF (a o : Str) : Prop where
 f0 : natOk o = false → natB a = false
 f1 : natOk o = true → 0 ≤ natN o ∧ natN o ≤ 99999999
 f2 : natOk o = true → natR o = [] → natB a = !(minB a && natN o == 0) ∧ natN o = (decV (cutN (ownS a)) : Int) ∧ ratD a = 1
 f3 : natOk o = true → natR o ≠ [] → (natR o).getD 0 0 ≠ 47 → natB a = false
 f5 : natOk o = true → (minB a && natN o == 0) = true → natB a = false
 f6 : natOk o = true → natR o ≠ [] → (natR o).getD 0 0 = 47 → natOk ((natR o).drop 1) = false → natB a = false
 f7 : natOk o = true → natR o ≠ [] → (natR o).getD 0 0 = 47 → natOk ((natR o).drop 1) = true →
  (natB a = true ↔ (minB a && natN o == 0) = false ∧ natR ((natR o).drop 1) = [] ∧ 2 ≤ natN ((natR o).drop 1) ∧ gcdO (natN o) (natN ((natR o).drop 1)) = 1) ∧ natN o = (decV (cutN (ownS a)) : Int) ∧ (natB a = true → (ratD a : Int) = natN ((natR o).drop 1))
 fr : ratN a = bif minB a then -(decV (cutN (ownS a)) : Int) else (decV (cutN (ownS a)) : Int)
theorem nat_fwd {a : Str} (h : natB a = true) : natOk (ownS a) = true ∧ natN (ownS a) = (decV (cutN (ownS a)) : Int) ∧ natR (ownS a) = (bif slashB (ownS a) then 47 :: cutD (ownS a) else []) := by
 obtain ⟨h1, h2, h3, h4⟩ := natB_iff.1 h
 obtain ⟨g1, g2, g3⟩ := form_iff.1 h1
 have ht : twD (ownS a) = cutN (ownS a) ∧ (ownS a).drop (cutN (ownS a)).length = (bif slashB (ownS a) then 47 :: cutD (ownS a) else []) := by
  cases hs : slashB (ownS a) with
  | false =>
   obtain ⟨c1, c2⟩ := cut_none hs
   rw [c1] at g1 ⊢
   exact ⟨tw_digs g1, by simp⟩
  | true =>
   have he := slash_split hs
   have e1 : twD (ownS a) = cutN (ownS a) := by
    conv => lhs; rw [he]
    rw [tw_app (digS_iff.1 g1).2.1]
    show cutN (ownS a) ++ [] = _
    rw [List.append_nil]
   refine ⟨e1, ?_⟩
   conv => lhs; arg 2; rw [he]
   rw [List.drop_left]
   rfl
 have ho : natOk (ownS a) = true := natOk_iff.2 (by rw [ht.1]; exact ⟨g1, h2⟩)
 obtain ⟨n1, n2, _⟩ := nat_ok ho
 rw [ht.1] at n1 n2
 exact ⟨ho, n1, by rw [n2, ht.2]⟩
theorem own_cut {a : Str} : ratN a = (bif minB a then -(decV (cutN (ownS a)) : Int) else (decV (cutN (ownS a)) : Int)) ∧ ratD a = (bif slashB (ownS a) then decV (cutD (ownS a)) else 1) := by
 obtain ⟨_, _, _, _, _, h6, h7⟩ := own_parts a
 exact ⟨h6, h7⟩
theorem nf (a : Str) : NF a (ownS a) := by
 obtain ⟨r1, r2⟩ := own_cut (a := a)
 have neg : natOk (ownS a) = true → (minB a && natN (ownS a) == 0) = true → natB a = false := fun h hz => Bool.eq_false_iff.2 fun hb => by
  obtain ⟨_, n1, _⟩ := nat_fwd hb
  obtain ⟨h1, _⟩ := natB_iff.1 hb
  obtain ⟨g1, g2, _⟩ := form_iff.1 h1
  rw [Bool.and_eq_true, beq_iff_eq, n1] at hz
  exact g2 ⟨hz.1, (dec0 g1).1 (by omega)⟩
 have sm : natOk (ownS a) = true → natR (ownS a) ≠ [] → (natR (ownS a)).getD 0 0 = 47 → cutN (ownS a) = twD (ownS a) ∧ cutD (ownS a) = (natR (ownS a)).drop 1 ∧ slashB (ownS a) = true := fun h h1 h2 => by
  obtain ⟨n1, n2, n3, _⟩ := nat_ok h
  have e : natR (ownS a) = 47 :: (natR (ownS a)).drop 1 := by
   match natR (ownS a), h1, h2 with
   | c :: r, _, h2 => rw [show c = 47 from h2]; rfl
  rw [e] at n3
  have := cut_some (a := twD (ownS a)) (b := (natR (ownS a)).drop 1) fun c hc => dg_not47 (tw_all _ c hc)
  rw [n3] at this
  exact this
 refine ⟨fun h => Bool.eq_false_iff.2 fun hb => ?_, fun h => (nat_ok h).2.2.2, fun h h1 => ?_, fun h h1 h2 => Bool.eq_false_iff.2 fun hb => ?_, neg, fun h h1 h2 h3 => Bool.eq_false_iff.2 fun hb => ?_, fun h h1 h2 h3 => ?_, r1⟩
 ·rw [(nat_fwd hb).1] at h; cases h
 ·obtain ⟨b1, b2, b3⟩ := nat_back h h1
  obtain ⟨c1, c2, c3⟩ := cut_no (s := ownS a) fun i hi e => by
   have := (digS_iff.1 b1).2.1 _ (getD_mem (s := ownS a) (i := i) hi)
   rw [e] at this
   cases this
  rw [c2, r2, c1]
  refine ⟨?_, b3, rfl⟩
  rw [Bool.eq_iff_iff, natB_iff, form_iff, c1, c2, c3, Bool.not_eq_true', b3]
  constructor
  ·rintro ⟨⟨_, g2, _⟩, _⟩
   rw [Bool.and_eq_false_iff]
   cases hm : minB a with
   | false => exact .inl rfl
   | true => exact .inr (beq_eq_false_iff_ne.2 fun e => g2 ⟨hm, (dec0 b1).1 (by omega)⟩)
  ·intro g
   refine ⟨⟨b1, fun g2 => ?_, fun e => by cases e⟩, b2, by simp, fun e => by cases e⟩
   rw [g2.1, g2.2] at g
   cases g
 ·have := (nat_fwd hb).2.2
  rw [this] at h1 h2
  cases hs : slashB (ownS a) with
  | false => rw [hs] at h1; exact h1 rfl
  | true => rw [hs] at h2; exact h2 rfl
 ·obtain ⟨c1, c2, c3⟩ := sm h h1 h2
  obtain ⟨k1, k2, k3, _⟩ := natB_iff.1 hb
  have d1 := (form_iff.1 k1).2.2 c3
  rw [c2] at d1 k3
  rw [(nat_digs d1.1 k3).1] at h3
  cases h3
 ·obtain ⟨c1, c2, c3⟩ := sm h h1 h2
  obtain ⟨n1, _, _, _⟩ := nat_ok h
  obtain ⟨o1, o2⟩ := natOk_iff.1 h
  rw [c1, r2, c3, c2]
  obtain ⟨m1, _, _, m4, m5⟩ := nat_ok h3
  have hgO : gcdO (natN (ownS a)) (natN ((natR (ownS a)).drop 1)) = (Nat.gcd (natN (ownS a)).toNat (natN ((natR (ownS a)).drop 1)).toNat : Int) := by
   unfold gcdO
   rw [(leB_iff _ _).2 (nat_ok h).2.2.2.1, (leB_iff _ _).2 m4]
   rfl
  have key : natB a = true ↔ (minB a && natN (ownS a) == 0) = false ∧ natR ((natR (ownS a)).drop 1) = [] ∧ 2 ≤ natN ((natR (ownS a)).drop 1) ∧ gcdO (natN (ownS a)) (natN ((natR (ownS a)).drop 1)) = 1 := by
   rw [natB_iff, form_iff, c1, c2, c3, hgO]
   constructor
   ·rintro ⟨⟨_, g2, g3⟩, g4, g5, g6⟩
    obtain ⟨g7, g8, g9⟩ := g3 rfl
    obtain ⟨q1, q2, q3⟩ := nat_digs g7 g5
    have z0 : decV ((natR (ownS a)).drop 1) ≠ 0 := fun e => g8 ((dec0 g7).1 e)
    have z1 : decV ((natR (ownS a)).drop 1) ≠ 1 := fun e => g9 ((dec1 g7).1 e)
    refine ⟨?_, q3, by omega, ?_⟩
    ·rw [Bool.and_eq_false_iff]
     cases hm : minB a with
     | false => exact .inl rfl
     | true => exact .inr (beq_eq_false_iff_ne.2 fun e => g2 ⟨hm, (dec0 o1).1 (by omega)⟩)
    ·rw [n1, q2, Int.toNat_natCast, Int.toNat_natCast, g6 rfl]; rfl
   ·rintro ⟨g1, g2, g3, g4⟩
    obtain ⟨q1, q2, q3⟩ := nat_back h3 g2
    have z0 : decV ((natR (ownS a)).drop 1) ≠ 0 := by omega
    have z1 : decV ((natR (ownS a)).drop 1) ≠ 1 := by omega
    refine ⟨⟨o1, fun e => ?_, fun _ => ⟨q1, fun e => z0 ((dec0 q1).2 e), fun e => z1 ((dec1 q1).2 e)⟩⟩, o2, q2, fun _ => ?_⟩
    ·rw [e.1, n1, (dec0 o1).2 e.2] at g1
     cases g1
    ·rw [n1, q3, Int.toNat_natCast, Int.toNat_natCast] at g4
     omega
  refine ⟨key, n1, fun hb => ?_⟩
  obtain ⟨_, g2, _⟩ := key.1 hb
  obtain ⟨q1, q2, q3⟩ := nat_back h3 g2
  rw [q3]
  rfl
noncomputable def Tno : Tb := (T0.plus 193 rnint_t).plus 194 rgcd_t
theorem Tno_sound : TbSound Tryz.prog Tno := TbSound.plus (TbSound.plus tb0_sound rnint_T) rgcd_T
def rnat_jn (a : Str) (x y : Ann) : Ann := .join Int (fun σ _ => [(0, σ.tm 0), (2, σ.tm 2), (4, σ.tm 4), (5, σ.tm 5), (8, σ.tm 8)]) (fun σ z => [(1, .box 135 2 (listFn [σ.tm 5, .i z]))]) 0
 (fun σ z => natB a = true ∧ z = (ratD a : Int) ∧ AV.int (σ.tm 5) = (decV (cutN (ownS a)) : Int)) x y
def rnat_an (a : Str) : Ann := .two .auto (.two .auto (.two .auto (.two .auto (.split 7 .auto (.two .auto (rnat_jn a (.two .auto (.two (.two .auto (.two .auto (.split 7 .auto .auto))) .auto)) .auto))))))
def rnat_t : List AV → Option (List Cond × AV)
 | [.str a] => some ([.p (a.length ≤ 9223372036854775807)], .tup 2 (listFn [.agg 2 (listFn [.i (bif natB a then ratN a else 0), .i (bif natB a then (ratD a : Int) else 0)]), .b (natB a)]))
 | _ => none
theorem rnat_vc (a : List UInt8) (hl : a.length ≤ 9223372036854775807) :
 let q1 := (!bsel true !a == Array.toList (ByteArray.data (ByteArray.mk #[])) || bsel true !a == Array.toList (ByteArray.data (ByteArray.mk #[]))); let q2 := (ltB (lZ (List.drop 1 a)) (lZ a)); let q4 := (True ∧ 2 = 2 ∧ (kI ∧ iZ = bif natB a then ratN a else iZ) ∧ kI ∧ iZ = bif natB a then (↑(ratD a) : Int) else iZ); let q3 := (j2 ∧ q4 ∧ false = natB a); let q5 := (lZ (natR (List.drop 1 a))); let q7 := (bif !true then true else !natR (List.drop 1 (natR
 (List.drop 1 a))) == Array.toList (ByteArray.data (ByteArray.mk #[]))); let q6 := (!bsel false q7 || bsel false q7); let q10 := (natN (List.drop 1 (natR (List.drop 1 a)))); let q9 := (bif bif !true then true else !natR (List.drop 1 (natR (List.drop 1 a))) == Array.toList (ByteArray.data (ByteArray.mk #[])) then true else ltB q10 (2 : Int)); let q8 := (!bsel false q9 || bsel false q9); let q11 := (aI (natN (List.drop 1 a))); let q12 := (kI ∧ natN (List.drop 1 a) = natN (List.drop 1 a)); let q13 := (135 = 135 ∧ 2 = 2 ∧ (kI ∧ iZ = (0 :
 Int)) ∧ kI ∧ iZ = iZ); let q14 := (bif bif !false then true else !natR (List.drop 1 (natR (List.drop 1 a))) == Array.toList (ByteArray.data (ByteArray.mk #[])) then true else ltB q10 (2 : Int)); let q15 := (ltB (lZ a) (lZ a)); let q17 := (bif !true then true else !natR (List.drop 1 (natR a)) == Array.toList (ByteArray.data (ByteArray.mk #[]))); let q16 := (!bsel false q17 || bsel false q17); let q19 := (bif bif !true then true else !natR (List.drop 1 (natR a)) == Array.toList (ByteArray.data (ByteArray.mk #[])) then true else ltB
 (natN (List.drop 1 (natR a))) (2 : Int)); let q18 := (!bsel false q19 || bsel false q19); let q20 := (bif bif !false then true else !natR (List.drop 1 (natR a)) == Array.toList (ByteArray.data (ByteArray.mk #[])) then true else ltB (natN (List.drop 1 (natR a))) (2 : Int)); bndL [AV.str a] → bsplit q1 (bsplit (!bsel true !a == Array.toList (ByteArray.data (ByteArray.mk #[])) || DB.db (iZ ≤ iZ ∧ iZ < (lZ a))) (bsplit q1 (bsplit (!!a == Array.toList (ByteArray.data (ByteArray.mk #[])) || bsel true !a == Array.toList (ByteArray.data (ByteArray.mk #[])))
 (bsplit (bif !a == Array.toList (ByteArray.data (ByteArray.mk #[])) then (↑(UInt8.toNat (gD a 0 (0 : UInt8))) : Int) == (45 : Int) else false) (bsplit (DB.db (iZ ≤ iO ∧ iO ≤ (lZ a))) (lN (List.drop 1 a) ≤ 9223372036854775807 ∧ bsplit (natOk (List.drop 1 a)) (bsplit (!(bsel false !true && bsel true q2) || bsel false !true && bsel true q2) (bsplit (!bsel false !true || (!ltB (lZ (List.drop 1 a)) (lZ a) || bsel false !true && bsel true q2)) (bsplit (bif !true then true else bif ltB (lZ (List.drop
 1 a)) (lZ a) then natN (List.drop 1 a) == iZ else false) q3 (bsplit (!natR (List.drop 1 a) == Array.toList (ByteArray.data (ByteArray.mk #[]))) (bsplit (DB.db (iZ ≤ iZ ∧ iZ < q5)) (bsplit ((↑(UInt8.toNat (gD (natR (List.drop 1 a)) 0 (0 : UInt8))) : Int) != (47 : Int)) q3 (bsplit (DB.db (iZ ≤ iO ∧ iO ≤ q5)) (lN (List.drop 1 (natR (List.drop 1 a))) ≤ 9223372036854775807 ∧ bsplit (natOk (List.drop 1 (natR (List.drop 1 a)))) (bsplit q6 (bsplit q6 (bsplit ((!!bif !true then true else !natR (List.drop 1 (natR
 (List.drop 1 a))) == Array.toList (ByteArray.data (ByteArray.mk #[]))) || bsel false q7) (bsplit q8 (bsplit q8 (bsplit q8 ((bsel false q9 = true → iZ ≤ natN (List.drop 1 a) ∧ natN (List.drop 1 a) ≤ iX) ∧ (bsel false q9 = true → iZ ≤ natN (List.drop 1 (natR (List.drop 1 a))) ∧ natN (List.drop 1 (natR (List.drop 1 a))) ≤ iX) ∧ bsplit q8 (bsplit ((!!bif bif !true then true else !natR (List.drop 1 (natR (List.drop 1 a))) == Array.toList (ByteArray.data (ByteArray.mk #[])) then true else ltB q10 (2 : Int)) || bsel false q9) (bsplit (bif
 bif bif !true then true else !natR (List.drop 1 (natR (List.drop 1 a))) == Array.toList (ByteArray.data (ByteArray.mk #[])) then true else ltB q10 (2 : Int) then true else gcdO (natN (List.drop 1 a)) q10 != iO) q3 (∃ (z : Int), ((natB a = true ∧ z = (↑(ratD a) : Int) ∧ AV.int q11 = (↑(decV (cutN (ownS a))) : Int)) ∧ a = a ∧ (nat_lit 0 = 0 ∧ 0 = 0) ∧ List.drop 1 a = List.drop 1 a ∧ q12 ∧ nat_lit 1 = 1 ∧ 0 = 0) ∧ q13 ∧ (135 : TypeId) = 135 ∧ 2 = 2 ∧ q12 ∧ kI ∧ natN (List.drop 1 (natR (List.drop 1 a))) = z)) False) False) False) False) False) False) False) False) ((bsel
 false q14 = true → iZ ≤ natN (List.drop 1 a) ∧ natN (List.drop 1 a) ≤ iX) ∧ (bsel false q14 = true → iZ ≤ natN (List.drop 1 (natR (List.drop 1 a))) ∧ natN (List.drop 1 (natR (List.drop 1 a))) ≤ iX) ∧ j2 ∧ q4 ∧ false = natB a)) False)) False) (∃ (z : Int), ((natB a = true ∧ z = (↑(ratD a) : Int) ∧ AV.int q11 = (↑(decV (cutN (ownS a))) : Int)) ∧ a = a ∧ (nat_lit 0 = 0 ∧ 0 = 0) ∧ List.drop 1 a = List.drop 1 a ∧ q12 ∧ nat_lit 1 = 1 ∧ 0 = 0) ∧ q13 ∧ (135 : TypeId) = 135 ∧ 2 = 2 ∧ q12 ∧ kI
 ∧ iO = z) ∧ ∀ (z : Int), natB a = true ∧ z = (↑(ratD a) : Int) ∧ AV.int q11 = (↑(decV (cutN (ownS a))) : Int) → bsplit q2 (bsplit (DB.db (inK .i64 (-natN (List.drop 1 a)))) (j2 ∧ (True ∧ 2 = 2 ∧ (kI ∧ -natN (List.drop 1 a) = bif natB a then ratN a else iZ) ∧ kI ∧ z = bif natB a then (↑(ratD a) : Int) else iZ) ∧ true = natB a) False) (j2 ∧ (True ∧ 2 = 2 ∧ (kI ∧ natN (List.drop 1 a) = bif natB a then ratN a else iZ) ∧ kI ∧ z = bif natB a then
 (↑(ratD a) : Int) else iZ) ∧ true = natB a))) False) False) q3) False) (lN a ≤ 9223372036854775807 ∧ bsplit (natOk a) (bsplit (!(bsel false !true && bsel true q15) || bsel false !true && bsel true q15) (bsplit (!bsel false !true || (!ltB (lZ a) (lZ a) || bsel false !true && bsel true q15)) (bsplit (bif !true then true else bif ltB (lZ a) (lZ a) then natN a == iZ else false) q3 (bsplit (!natR a == Array.toList (ByteArray.data (ByteArray.mk #[]))) (bsplit (DB.db (iZ ≤ iZ ∧ iZ <
 (lZ (natR a)))) (bsplit ((↑(UInt8.toNat (gD (natR a) 0 (0 : UInt8))) : Int) != (47 : Int)) q3 (bsplit (DB.db (iZ ≤ iO ∧ iO ≤ (lZ (natR a)))) (lN (List.drop 1 (natR a)) ≤ 9223372036854775807 ∧ bsplit (natOk (List.drop 1 (natR a))) (bsplit q16 (bsplit q16 (bsplit ((!!bif !true then true else !natR (List.drop 1 (natR a)) == Array.toList (ByteArray.data (ByteArray.mk #[]))) || bsel false q17) (bsplit q18 (bsplit q18 (bsplit q18 ((bsel false q19 = true → iZ ≤ natN a ∧ natN a ≤ iX) ∧ (bsel false
 q19 = true → iZ ≤ natN (List.drop 1 (natR a)) ∧ natN (List.drop 1 (natR a)) ≤ iX) ∧ bsplit q18 (bsplit ((!!bif bif !true then true else !natR (List.drop 1 (natR a)) == Array.toList (ByteArray.data (ByteArray.mk #[])) then true else ltB (natN (List.drop 1 (natR a))) (2 : Int)) || bsel false q19) (bsplit (bif bif bif !true then true else !natR (List.drop 1 (natR a)) == Array.toList (ByteArray.data (ByteArray.mk #[])) then true else ltB (natN (List.drop 1 (natR a))) (2 : Int) then true else gcdO (natN a) (natN (List.drop 1 (natR a))) != iO) q3 (∃ (z : Int),
 ((natB a = true ∧ z = (↑(ratD a) : Int) ∧ AV.int (aI (natN a)) = (↑(decV (cutN (ownS a))) : Int)) ∧ a = a ∧ (nat_lit 0 = 0 ∧ 0 = 0) ∧ a = a ∧ (kI ∧ natN a = natN a) ∧ nat_lit 1 = 1 ∧ 0 = 0) ∧ q13 ∧ (135 : TypeId) = 135 ∧ 2 = 2 ∧ (kI ∧ natN a = natN a) ∧ kI ∧ natN (List.drop 1 (natR a)) = z)) False) False) False) False) False) False) False) False) ((bsel false q20 = true → iZ ≤ natN a ∧ natN a ≤ iX) ∧ (bsel false q20 = true → iZ ≤ natN (List.drop 1 (natR a)) ∧ natN (List.drop 1 (natR a)) ≤
 iX) ∧ j2 ∧ q4 ∧ false = natB a)) False)) False) (∃ (z : Int), ((natB a = true ∧ z = (↑(ratD a) : Int) ∧ AV.int (aI (natN a)) = (↑(decV (cutN (ownS a))) : Int)) ∧ a = a ∧ (nat_lit 0 = 0 ∧ 0 = 0) ∧ a = a ∧ (kI ∧ natN a = natN a) ∧ nat_lit 1 = 1 ∧ 0 = 0) ∧ q13 ∧ (135 : TypeId) = 135 ∧ 2 = 2 ∧ (kI ∧ natN a = natN a) ∧ kI ∧ iO = z) ∧ ∀ (z : Int), natB a = true ∧ z = (↑(ratD a) : Int) ∧ AV.int (aI (natN a)) = (↑(decV (cutN (ownS a))) : Int) → bsplit q15
 (bsplit (DB.db (inK .i64 (-natN a))) (j2 ∧ (True ∧ 2 = 2 ∧ (kI ∧ -natN a = bif natB a then ratN a else iZ) ∧ kI ∧ z = bif natB a then (↑(ratD a) : Int) else iZ) ∧ true = natB a) False) (j2 ∧ (True ∧ 2 = 2 ∧ (kI ∧ natN a = bif natB a then ratN a else iZ) ∧ kI ∧ z = bif natB a then (↑(ratD a) : Int) else iZ) ∧ true = natB a))) False) False) q3)) False) False) False) False := by
 delta kI j2 lZ lN gD iZ iO iX aI
 dsimp only
 intro hb
 simp only [sS, dS, ltB_nat]
 have em : (!(a == []) && ((a.getD 0 0).toNat : Int) == 45) = minB a := by
  rw [show (((a.getD 0 0).toNat : Int) == 45) = (a.getD 0 0 == 45) from byte_eq (a.getD 0 0) 45 (by decide)]
  unfold minB
  match a with
  | [] => rfl
  | c :: r => simp
 have e47 : ∀ c : UInt8, ((c.toNat : Int) = 47) ↔ c = 47 := fun c => by
  have := byte_eq c 47 (by decide)
  rw [Bool.eq_iff_iff, beq_iff_eq, beq_iff_eq] at this
  exact this
 have bad : natB a = false → 2 = [AV.junk, AV.junk].length ∧ ((0 = bif natB a then ratN a else 0) ∧ 0 = bif natB a then (ratD a : Int) else 0) ∧ false = natB a := fun h => by rw [h]; exact ⟨rfl, ⟨rfl, rfl⟩, rfl⟩
 have rb : ∀ s : Str, natOk s = true → 0 ≤ natN s ∧ natN s ≤ 9223372036854775807 := fun s h => by have := (nat_ok h).2.2.2; omega
 have F := nf a
 rw [em]
 simp only [e47, ne_eq]
 have hpos : (!(a == [])) = true → 0 < a.length := fun h => by
  match a, h with
  | c :: r, _ => simp
 refine ⟨fun h => ⟨Int.le_refl _, by have := hpos h; omega⟩, bsplit_iff.2 ⟨fun c => ?_, fun c => ?_⟩⟩
 ·have hown : ownS a = a.drop 1 := by unfold ownS; rw [c]; rfl
  have hl1 := (ownS_t c).2
  have hlt : ltB ((a.drop 1).length : Int) (a.length : Int) = minB a := by rw [c, ltB_iff, List.length_drop]; omega
  rw [hown] at F
  refine ⟨⟨by omega, by omega⟩, by rw [List.length_drop]; omega, ?_⟩
  generalize ho : a.drop 1 = o at *
  have hlo : o.length ≤ a.length := by rw [← ho, List.length_drop]; omega
  have hgt : (o.length : Int) < (a.length : Int) ↔ minB a = true := by rw [← hlt, ltB_iff]
  rw [hlt]
  refine bsplit_iff.2 ⟨fun k => ?_, fun k => bad (F.f0 k)⟩
  refine bsp_t (by cases minB a <;> rfl) ?_
  have hb1 := rb _ k
  refine bsplit_iff.2 ⟨fun k2 => bad (F.f5 k (by simpa using k2)), fun k2 => ⟨bsplit_iff.2 ⟨fun k3 => ?_, fun k3 => ?_⟩, fun z hz => ?_⟩⟩
  ·have k4 : natR o ≠ [] := by simpa using k3
   have k5 : 0 < (natR o).length := Nat.pos_of_ne_zero fun e => k4 (List.eq_nil_of_length_eq_zero e)
   have k6 : (natR o).length ≤ o.length := by
    obtain ⟨_, _, h3, _⟩ := nat_ok k
    have := congrArg List.length h3
    rw [List.length_append] at this
    omega
   refine ⟨⟨by omega, by omega⟩, fun hne => bad (F.f3 k k4 hne), fun he => ⟨⟨by omega, by omega⟩, by rw [List.length_drop]; omega, bsplit_iff.2 ⟨fun k7 => ?_, fun k7 => ?_⟩⟩⟩
   ·obtain ⟨i1, i2, i3⟩ := F.f7 k k4 he k7
    refine ⟨fun _ => hb1, fun _ => rb _ k7, bsplit_iff.2 ⟨fun k8 => bad (Bool.eq_false_iff.2 fun hb => ?_), fun k8 => ?_⟩⟩
    ·obtain ⟨j1, j2, j3, j4⟩ := i1.1 hb
     rw [j2, j4, show ltB (natN ((natR o).drop 1)) 2 = false from Bool.eq_false_iff.2 fun e => by have := (ltB_iff _ _).1 e; omega] at k8
     cases k8
    ·have hb : natB a = true := i1.2 (by
      rw [Bool.or_eq_false_iff, Bool.or_eq_false_iff] at k8
      obtain ⟨⟨q1, q2⟩, q3⟩ := k8
      refine ⟨by simpa using k2, by simpa using q1, ?_, by simpa using q3⟩
      refine Decidable.byContradiction fun hn => ?_
      rw [(ltB_iff _ _).2 (by omega)] at q2
      cases q2)
     exact ⟨_, ⟨hb, (i3 hb).symm, i2⟩, rfl⟩
   ·exact ⟨fun h => by simp at h, fun h => by simp at h, bad (F.f6 k k4 he k7)⟩
  ·have k4 : natR o = [] := by simpa using k3
   obtain ⟨i1, i2, i3⟩ := F.f2 k k4
   have k2' : (minB a && natN o == 0) = false := k2
   have hb : natB a = true := by rw [i1, k2']; rfl
   exact ⟨1, ⟨hb, by rw [i3]; rfl, i2⟩, rfl⟩
  ·obtain ⟨z1, z2, z3⟩ := hz
   have fr := F.fr
   rw [← z3] at fr
   refine ⟨fun hh => ⟨⟨by omega, by omega⟩, rfl, ⟨?_, ?_⟩, z1.symm⟩, fun hh => ⟨rfl, ⟨?_, ?_⟩, z1.symm⟩⟩
   ·rw [z1, fr, hgt.1 hh]; rfl
   ·rw [z1]; exact z2
   ·have : minB a = false := Bool.eq_false_iff.2 fun e => by have := hgt.2 e; omega
    rw [z1, fr, this]; rfl
   ·rw [z1]; exact z2
 ·have hown : ownS a = a := by unfold ownS; rw [c]; rfl
  have hlt : ltB (a.length : Int) (a.length : Int) = minB a := by rw [c, Bool.eq_false_iff, Ne, ltB_iff]; omega
  rw [hown] at F
  have hlo : a.length ≤ a.length := Nat.le_refl _
  have hgt : (a.length : Int) < (a.length : Int) ↔ minB a = true := by rw [← hlt, ltB_iff]
  refine ⟨by omega, ?_⟩
  rw [hlt]
  refine bsplit_iff.2 ⟨fun k => ?_, fun k => bad (F.f0 k)⟩
  refine bsp_t (by cases minB a <;> rfl) ?_
  have hb1 := rb _ k
  refine bsplit_iff.2 ⟨fun k2 => bad (F.f5 k (by simpa using k2)), fun k2 => ⟨bsplit_iff.2 ⟨fun k3 => ?_, fun k3 => ?_⟩, fun z hz => ?_⟩⟩
  ·have k4 : natR a ≠ [] := by simpa using k3
   have k5 : 0 < (natR a).length := Nat.pos_of_ne_zero fun e => k4 (List.eq_nil_of_length_eq_zero e)
   have k6 : (natR a).length ≤ a.length := by
    obtain ⟨_, _, h3, _⟩ := nat_ok k
    have := congrArg List.length h3
    rw [List.length_append] at this
    omega
   refine ⟨⟨by omega, by omega⟩, fun hne => bad (F.f3 k k4 hne), fun he => ⟨⟨by omega, by omega⟩, by rw [List.length_drop]; omega, bsplit_iff.2 ⟨fun k7 => ?_, fun k7 => ?_⟩⟩⟩
   ·obtain ⟨i1, i2, i3⟩ := F.f7 k k4 he k7
    refine ⟨fun _ => hb1, fun _ => rb _ k7, bsplit_iff.2 ⟨fun k8 => bad (Bool.eq_false_iff.2 fun hb => ?_), fun k8 => ?_⟩⟩
    ·obtain ⟨j1, j2, j3, j4⟩ := i1.1 hb
     rw [j2, j4, show ltB (natN ((natR a).drop 1)) 2 = false from Bool.eq_false_iff.2 fun e => by have := (ltB_iff _ _).1 e; omega] at k8
     cases k8
    ·have hb : natB a = true := i1.2 (by
      rw [Bool.or_eq_false_iff, Bool.or_eq_false_iff] at k8
      obtain ⟨⟨q1, q2⟩, q3⟩ := k8
      refine ⟨by simpa using k2, by simpa using q1, ?_, by simpa using q3⟩
      refine Decidable.byContradiction fun hn => ?_
      rw [(ltB_iff _ _).2 (by omega)] at q2
      cases q2)
     exact ⟨_, ⟨hb, (i3 hb).symm, i2⟩, rfl⟩
   ·exact ⟨fun h => by simp at h, fun h => by simp at h, bad (F.f6 k k4 he k7)⟩
  ·have k4 : natR a = [] := by simpa using k3
   obtain ⟨i1, i2, i3⟩ := F.f2 k k4
   have k2' : (minB a && natN a == 0) = false := k2
   have hb : natB a = true := by rw [i1, k2']; rfl
   exact ⟨1, ⟨hb, by rw [i3]; rfl, i2⟩, rfl⟩
  ·obtain ⟨z1, z2, z3⟩ := hz
   have fr := F.fr
   rw [← z3] at fr
   refine ⟨fun hh => ⟨⟨by omega, by omega⟩, rfl, ⟨?_, ?_⟩, z1.symm⟩, fun hh => ⟨rfl, ⟨?_, ?_⟩, z1.symm⟩⟩
   ·rw [z1, fr, hgt.1 hh]; rfl
   ·rw [z1]; exact z2
   ·have : minB a = false := Bool.eq_false_iff.2 fun e => by have := hgt.2 e; omega
    rw [z1, fr, this]; rfl
   ·rw [z1]; exact z2
theorem rnat_C (a : List UInt8) (hl : a.length ≤ 9223372036854775807) : PureCall Tryz.prog [] 130 [.str a] (.tup 2 (listFn [.agg 2 (listFn [.i (bif natB a then ratN a else 0), .i (bif natB a then (ratD a : Int) else 0)]), .b (natB a)])) :=
 pure_of_vc (T := Tno) (an := rnat_an a) mixed Tno_sound (Eq.mp (by kernel_rfl) (rnat_vc a hl))
theorem rnat_T : PureT Tryz.prog [] 130 rnat_t := by
 intro xs ps r h hp
 unfold rnat_t at h
 split at h
 ·skip
  rename_i a
  cases h
  obtain ⟨q0, -⟩ := allC hp
  exact weaken (ys := [.str a]) ⟨avM_refl _, trivial⟩ (rnat_C a q0)
 ·cases h
end Go.Te

namespace Go.Te
open Go Go.Sx Go.Proofs Go.Ar
set_option maxRecDepth 100000
set_option maxHeartbeats 4000000
def dgN (s : Str) : Int := bif Nat.blt 1 (twD s).length && s.getD 0 0 == 48 then 0 else ((twD s).length : Int)
theorem ix_spec (c : UInt8) : ∀ s : Str, (0 ≤ Lib.indexByte s c → ∃ z : Nat, Lib.indexByte s c = z ∧ z < s.length ∧ (∀ i, i < z → s.getD i 0 ≠ c) ∧ s.getD z 0 = c) ∧ (Lib.indexByte s c < 0 → ∀ i, i < s.length → s.getD i 0 ≠ c)
 | [] => ⟨fun h => by simp [Lib.indexByte] at h, fun _ i hi => absurd hi (Nat.not_lt_zero _)⟩
 | x :: s => by
  obtain ⟨h1, h2⟩ := ix_spec c s
  unfold Lib.indexByte
  have ge := Lib.indexByte_ge s c
  by_cases hx : x = c
  ·subst hx
   simp only [if_true, beq_self_eq_true, ↓reduceIte]
   exact ⟨fun _ => ⟨0, rfl, by simp, fun i hi => absurd hi (Nat.not_lt_zero _), rfl⟩, fun h => absurd h (by decide)⟩
  ·have hx' : (x == c) = false := beq_eq_false_iff_ne.2 hx
   simp only [hx', hx, if_false, Bool.false_eq_true, ↓reduceIte]
   refine ⟨fun h => ?_, fun h => ?_⟩
   ·split at h
    ·exact absurd h (by decide)
    ·rename_i hn
     have hne : Lib.indexByte s c ≠ -1 := by simpa using hn
     obtain ⟨z, e, h3, h4, h5⟩ := h1 (by omega)
     refine ⟨z + 1, ?_, by simp; omega, fun i hi => ?_, h5⟩
     ·rw [if_neg hn, e]; omega
     ·match i with
      | 0 => exact hx
      | i + 1 => exact h4 i (by omega)
   ·split at h
    ·rename_i hn
     intro i hi
     match i with
     | 0 => exact hx
     | i + 1 =>
      have heq : Lib.indexByte s c = -1 := by simpa using hn
      exact h2 (by omega) i (by simpa using hi)
    ·rename_i hn
     have hne : Lib.indexByte s c ≠ -1 := by simpa using hn
     omega
theorem dgN_digs (s : Str) : (dgN s == 0 || ltB (dgN s) (s.length : Int)) = !digS s := by
 have hsp := congrArg List.length (tw_split s)
 rw [List.length_append, List.length_drop] at hsp
 cases hd : digS s with
 | true =>
  obtain ⟨d1, d2, d3⟩ := digS_iff.1 hd
  have ht := tw_digs hd
  have e : dgN s = (s.length : Int) := by
   unfold dgN
   rw [ht]
   cases hb : Nat.blt 1 s.length with
   | false => rfl
   | true =>
    rw [beq_eq_false_iff_ne.2 (d3 ((blt_iff _ _).1 hb))]
    rfl
  rw [e, beq_eq_false_iff_ne.2 (by omega), show ltB (s.length : Int) (s.length : Int) = false from Bool.eq_false_iff.2 fun e => by have := (ltB_iff _ _).1 e; omega]
  rfl
 | false =>
  show _ = true
  unfold dgN
  cases hb : Nat.blt 1 (twD s).length && s.getD 0 0 == 48 with
  | true => rfl
  | false =>
   simp only [cond_false]
   by_cases h0 : (twD s).length = 0
   ·rw [h0]; rfl
   by_cases hl : (twD s).length < s.length
   ·rw [(ltB_iff _ _).2 (by omega), Bool.or_true]
   refine absurd hd ?_
   have ht : twD s = s := by
    have := tw_split s
    rw [List.drop_of_length_le (by omega), List.append_nil] at this
    exact this
   rw [ht] at hb h0
   have : digS s = true := digS_iff.2 ⟨by omega, fun c hc => tw_all s c (by rw [ht]; exact hc), fun h1 e => by
    rw [(blt_iff _ _).2 h1, e] at hb
    cases hb⟩
   rw [this]
   decide
def rdig_an (s : Str) : Ann :=
 .two .auto (.two .auto (.two (.one (.loop Nat (fun σ z => [(0, σ.tm 0), (3, .i (z : Int))]) (fun σ z => []) 0 (fun σ z => z ≤ s.length ∧ ∀ i, i < z → isDg (s.getD i 0) = true) (fun σ z => s.length - z) .auto)) .auto))
def rdig_t : List AV → Option (List Cond × AV)
 | [.str s] => some ([.p (s.length ≤ 9223372036854775807)], .i (dgN s))
 | _ => none
theorem rdig_vc (s : List UInt8) (hl : s.length ≤ 9223372036854775807) :
 bndL [AV.str s] → (∃ (z : Nat), ((z ≤ lN s ∧ ∀ (i : Nat), i < z → isDg (gD s i (0 : UInt8)) = true) ∧ s = s ∧ kI ∧ iZ = (↑z : Int)) ∧ True) ∧ ∀ (z : Nat), let q2 := (ltB (↑z : Int) (lZ s)); let q1 := (!bsel true q2 || bsel true q2); let q3 := (iZ ≤ (↑z : Int) ∧ (↑z : Int) < (lZ s)); let q6 := (↑(UInt8.toNat (gD s (Int.toNat (↑z : Int)) (0 : UInt8))) : Int); let q5 := (bif ltB (↑z : Int) (lZ s) then leB (48 : Int) q6 else false); let q4 := (!bsel true q5 || bsel true q5); let q7 := (!bsel
 true (ltB iO (↑z : Int)) || bsel true (ltB iO (↑z : Int))); (z ≤ lN s ∧ ∀ (i : Nat), i < z → isDg (gD s i (0 : UInt8)) = true) → bsplit q1 (bsplit q1 (bsplit (!bsel true q2 || DB.db q3) (bsplit q1 (bsplit (!ltB (↑z : Int) (lZ s) || bsel true q2) (bsplit q4 (bsplit q4 (bsplit (!bsel true q5 || DB.db q3) (bsplit q4 (bsplit ((!bif ltB (↑z : Int) (lZ s) then leB (48 : Int) q6 else false) || bsel true q5) (bsplit (bif bif ltB (↑z : Int) (lZ s) then leB (48 : Int) q6 else false then leB q6 (57 : Int) else false)
 (bsplit (DB.db (inK .i64 ((↑z : Int) + iO))) (∃ (z' : Nat), (((z' ≤ lN s ∧ ∀ (i : Nat), i < z' → isDg (gD s i (0 : UInt8)) = true) ∧ lN s - z' < lN s - z) ∧ s = s ∧ kI ∧ (↑z : Int) + iO = (↑z' : Int)) ∧ True) False) (bsplit q7 (bsplit (!bsel true (ltB iO (↑z : Int)) || DB.db (iZ ≤ iZ ∧ iZ < (lZ s))) (bsplit q7 (bsplit (!ltB iO (↑z : Int) || bsel true (ltB iO (↑z : Int))) (bsplit (bif ltB iO (↑z : Int) then (↑(UInt8.toNat (gD s 0 (0 : UInt8))) : Int) == (48 :
 Int) else false) (kI ∧ iZ = dgN s) (kI ∧ (↑z : Int) = dgN s)) False) False) False) False)) False) False) False) False) False) False) False) False) False) False := by
 delta kI lZ lN gD iZ iO
 dsimp only
 intro hb
 simp only [sS, dS, ltB_nat]
 have dg2 : ∀ c : UInt8, (leB 48 (c.toNat : Int) && leB (c.toNat : Int) 57) = isDg c := fun c => by rw [Bool.eq_iff_iff, Bool.and_eq_true, leB_iff, leB_iff, isDg_iff]; omega
 simp only [Bool.and_assoc, dg2]
 refine ⟨⟨0, ⟨Nat.zero_le _, fun i hi => absurd hi (Nat.not_lt_zero _)⟩, rfl⟩, fun z ⟨z1, z3⟩ => ⟨fun h => ?_, fun h => ?_, bsplit_iff.2 ⟨fun c => ?_, fun c => ⟨fun h => ?_, ?_⟩⟩⟩⟩
 ·have := (ltB_iff _ _).1 h; exact ⟨by omega, by omega⟩
 ·rw [Bool.and_eq_true] at h; have := (ltB_iff _ _).1 h.1; exact ⟨by omega, by omega⟩
 ·rw [Bool.and_eq_true] at c
  have c1 := (ltB_iff _ _).1 c.1
  refine ⟨⟨by omega, by omega⟩, z + 1, ⟨⟨by omega, fun i hi => ?_⟩, by omega⟩, by omega⟩
  by_cases e : i = z
  ·rw [e]; exact c.2
  ·exact z3 i (by omega)
 ·have := (ltB_iff _ _).1 h; exact ⟨by omega, by omega⟩
 ·have h3 : z = s.length ∨ isDg (s.getD z 0) = false := by
   by_cases q1 : z = s.length
   ·exact .inl q1
   ·rw [(ltB_iff _ _).2 (show (z : Int) < (s.length : Int) by omega), Bool.true_and] at c
    exact .inr c
  have ht := tw_take z1 z3 h3
  have hl : (twD s).length = z := by rw [ht, List.length_take]; omega
  have e1 : (ltB 1 (z : Int) && ((s.getD 0 0).toNat : Int) == 48) = (Nat.blt 1 z && s.getD 0 0 == 48) := by
   rw [show (((s.getD 0 0).toNat : Int) == 48) = (s.getD 0 0 == 48) from byte_eq (s.getD 0 0) 48 (by decide), show ltB 1 (z : Int) = Nat.blt 1 z from by rw [Bool.eq_iff_iff, ltB_iff, blt_iff]; omega]
  rw [e1]
  unfold dgN
  rw [hl]
  refine bsplit_iff.2 ⟨fun k => ?_, fun k => ?_⟩
  ·rw [k]; rfl
  ·rw [k]; rfl
theorem rdig_C (s : List UInt8) (hl : s.length ≤ 9223372036854775807) : PureCall Tryz.prog [] 234 [.str s] (.i (dgN s)) :=
 pure_of_vc (T := T0) (an := rdig_an s) mixed tb0_sound (Eq.mp (by kernel_rfl) (rdig_vc s hl))
theorem rdig_T : PureT Tryz.prog [] 234 rdig_t := by
 intro xs ps r h hp
 unfold rdig_t at h
 split at h
 ·skip
  rename_i s
  cases h
  obtain ⟨q0, -⟩ := allC hp
  exact weaken (ys := [.str s]) ⟨avM_refl _, trivial⟩ (rdig_C s q0)
 ·cases h
noncomputable def Tcut : Tb := (T0.plus 123 idx1_t).body Tryz.prog [(256, .auto)]
theorem Tcut_sound : TbSound Tryz.prog Tcut := TbSound.body mixed (TbSound.plus tb0_sound idx1_T) _
theorem scut_vc (s : Str) (hl : s.length ≤ 9223372036854775807) :
 bndL [AV.str s, AV.str [(47 : UInt8)]] → bsplit (leB iZ (Lib.indexByte s (47 : UInt8))) (bsplit (DB.db (iZ ≤ Lib.indexByte s (47 : UInt8) ∧ Lib.indexByte s (47 : UInt8) ≤ (lZ s))) (bsplit (DB.db (inK .i64 (Lib.indexByte s (47 : UInt8) + (↑1 : Int)))) (bsplit (DB.db (iZ ≤ Lib.indexByte s (47 : UInt8) + (↑1 : Int) ∧ Lib.indexByte s (47 : UInt8) + (↑1 : Int) ≤ (lZ s))) (3 = lN [AV.junk, AV.junk, AV.junk] ∧ ((True ∧ List.take (Int.toNat (Lib.indexByte s (47 : UInt8))) s = cutN s) ∧ List.drop (Int.toNat (Lib.indexByte s (47 : UInt8) +
 (↑1 : Int))) s = cutD s) ∧ true = slashB s) False) False) False) (3 = lN [AV.junk, AV.junk, AV.junk] ∧ ((True ∧ s = cutN s) ∧ Array.toList (ByteArray.data (ByteArray.mk #[])) = cutD s) ∧ false = slashB s) := by
 delta lZ lN iZ
 intro hb
 simp only [sS, dS, ltB_nat]
 obtain ⟨h1, h2⟩ := ix_spec 47 s
 refine ⟨fun h => ?_, fun h => ?_⟩
 ·obtain ⟨z, e, z1, z2, z3⟩ := h1 h
  obtain ⟨c1, c2, c3⟩ := cut_at z1 z2 z3
  rw [e, c1, c2, c3, show ((z : Int)).toNat = z from rfl, show ((z : Int) + 1).toNat = z + 1 by omega]
  exact ⟨⟨by omega, by omega⟩, ⟨by omega, by omega⟩, ⟨by omega, by omega⟩, rfl, ⟨rfl, rfl⟩, rfl⟩
 ·obtain ⟨c1, c2, c3⟩ := cut_no (h2 h)
  rw [c1, c2, c3]
  exact ⟨rfl, ⟨rfl, rfl⟩, rfl⟩
def slash_t : List AV → Option (List Cond × AV)
 | [.str s, .str p] => some ([.b (p == [47]), .p (s.length ≤ 9223372036854775807)], .tup 3 (listFn [.str (cutN s), .str (cutD s), .b (slashB s)]))
 | _ => none
theorem scut_T : PureT Tryz.prog [] 233 slash_t := by
 intro xs ps r h hp
 unfold slash_t at h
 split at h
 ·rename_i s p
  cases h
  have q : (p == [47]) = true := hp _ List.mem_cons_self
  have q1 : s.length ≤ 9223372036854775807 := hp _ (List.mem_cons_of_mem _ List.mem_cons_self)
  obtain rfl := eq_of_beq q
  exact pure_of_vc mixed Tcut_sound (Eq.mp (by kernel_rfl) (scut_vc s q1) : vcFn Tryz.prog Tcut 233 (.auto) [.str s, .str [47]] (.tup 3 (listFn [.str (cutN s), .str (cutD s), .b (slashB s)])))
 ·cases h
theorem int_form (t : Str) : intB t = (digS (ownS t) && !(minB t && ownS t == [48])) := by
 match t with
 | [] => rfl
 | c :: r =>
  by_cases hc : c = 45
  ·subst hc
   rfl
  ·have hm : minB (c :: r) = false := beq_eq_false_iff_ne.2 hc
   obtain ⟨h1, _, _⟩ := int_plain (a := c :: r) fun h => hc h.2
   rw [h1, hm, ← ownS_f hm, Bool.false_and, Bool.not_false, Bool.and_true]
noncomputable def Trc : Tb := ((T0.plus 233 slash_t).plus 210 (dash_t fun s => .tup 2 (listFn [.str (ownS s), .b (minB s)]))).plus 234 rdig_t
theorem Trc_sound : TbSound Tryz.prog Trc := TbSound.plus (TbSound.plus (TbSound.plus tb0_sound scut_T) cutP_T) rdig_T
def rcut_t : List AV → Option (List Cond × AV)
 | [.str a] => some ([.p (a.length ≤ 9223372036854775807)], .tup 2 (listFn [.agg 2 (listFn [.str (bif formB a then cutN a else []), .str (bif formB a then (bif slashB a then cutD a else [49]) else [])]), .b (formB a)]))
 | _ => none
theorem rcut_vc (a : List UInt8) (hl : a.length ≤ 9223372036854775807) :
 let q1 := (!bsel false (dgN (ownS (cutN a)) == iZ) || bsel false (dgN (ownS (cutN a)) == iZ)); let q3 := (bif dgN (ownS (cutN a)) == iZ then true else ltB (dgN (ownS (cutN a))) (lZ (ownS (cutN a)))); let q2 := (!bsel false q3 || bsel false q3); let q4 := (ByteArray.data (ByteArray.mk #[(48 : UInt8)])); let q5 := (j2 ∧ (True ∧ 2 = 2 ∧ (Array.toList (ByteArray.data (ByteArray.mk #[])) = bif formB a then cutN a else []) ∧ Array.toList (ByteArray.data (ByteArray.mk #[])) = bif formB a then bif slashB a then cutD a else [(49 :
 UInt8)] else []) ∧ false = formB a); let q6 := (cutN a = bif formB a then cutN a else []); let q7 := (ByteArray.data (ByteArray.mk #[(49 : UInt8)])); let q8 := (!bsel false (dgN (cutD a) == iZ) || bsel false (dgN (cutD a) == iZ)); let q9 := (bif dgN (cutD a) == iZ then true else ltB (dgN (cutD a)) (lZ (cutD a))); let q10 := (bif bif dgN (cutD a) == iZ then true else ltB (dgN (cutD a)) (lZ (cutD a)) then true else cutD a == Array.toList q4); bndL [AV.str a] → lN a ≤ 9223372036854775807 ∧ lN (ownS (cutN a)) ≤
 9223372036854775807 ∧ bsplit q1 (bsplit q1 (bsplit q1 (bsplit (!!dgN (ownS (cutN a)) == iZ || bsel false (dgN (ownS (cutN a)) == iZ)) (bsplit q2 (bsplit (!(bsel false q3 && bsel true (minB (cutN a))) || bsel false q3 && bsel true (minB (cutN a))) (bsplit q2 (bsplit (!bsel false q3 || (!minB (cutN a) || bsel false q3 && bsel true (minB (cutN a)))) (bsplit ((!!bif dgN (ownS (cutN a)) == iZ then true else ltB (dgN (ownS (cutN a))) (lZ (ownS (cutN a)))) || bsel false q3) (bsplit (bif bif dgN (ownS (cutN a)) == iZ then true else ltB (dgN (ownS (cutN a)))
 (lZ (ownS (cutN a))) then true else bif minB (cutN a) then ownS (cutN a) == Array.toList q4 else false) q5 (bsplit (!slashB a) (j2 ∧ (True ∧ 2 = 2 ∧ q6 ∧ Array.toList q7 = bif formB a then bif slashB a then cutD a else [(49 : UInt8)] else []) ∧ true = formB a) (lN (cutD a) ≤ 9223372036854775807 ∧ bsplit q8 (bsplit q8 (bsplit q8 (bsplit (!!dgN (cutD a) == iZ || bsel false (dgN (cutD a) == iZ)) (bsplit (!bsel false q9 || bsel false q9) (bsplit ((!!bif dgN (cutD a) == iZ then true else ltB (dgN (cutD a)) (↑(List.length
 (cutD a)) : Int)) || bsel false q9) (bsplit (!bsel false q10 || bsel false q10) (bsplit ((!!bif bif dgN (cutD a) == iZ then true else ltB (dgN (cutD a)) (lZ (cutD a)) then true else cutD a == Array.toList q4) || bsel false q10) (bsplit (bif bif bif dgN (cutD a) == iZ then true else ltB (dgN (cutD a)) (lZ (cutD a)) then true else cutD a == Array.toList q4 then true else cutD a == Array.toList q7) q5 (j2 ∧ (True ∧ 2 = 2 ∧ q6 ∧ cutD a = bif formB a then bif slashB a then cutD a else [(49 : UInt8)] else []) ∧ true =
 formB a)) False) False) False) False) False) False) False) False))) False) False) False) False) False) False) False) False) False := by
 delta j2 lZ lN iZ
 dsimp only
 intro hb
 simp only [sS, dS, ltB_nat, dgN_digs]
 have hF : formB a = (intB (cutN a) && (!slashB a || digS (cutD a) && !(cutD a == [48]) && !(cutD a == [49]))) := rfl
 rw [int_form] at hF
 have l1 := cutN_len a
 have l2 := cutD_len a
 have l3 := ownS_len (cutN a)
 generalize digS (ownS (cutN a)) = p1 at *
 generalize (minB (cutN a)) = p2 at *
 generalize (ownS (cutN a) == [48]) = p3 at *
 refine ⟨hl, by omega, ?_⟩
 refine bsp_t (by cases p1 <;> cases p2 <;> rfl) ?_
 refine bsplit_iff.2 ⟨fun c => ?_, fun c => bsplit_iff.2 ⟨fun c2 => ?_, fun c2 => ⟨by omega, bsplit_iff.2 ⟨fun c3 => ?_, fun c3 => ?_⟩⟩⟩⟩
 ·have e : formB a = false := by
   rw [hF]
   revert c
   cases p1 <;> cases p2 <;> cases p3 <;> simp
  rw [e]
  exact ⟨rfl, ⟨rfl, rfl⟩, rfl⟩
 ·have hs : slashB a = false := by simpa using c2
  have e : formB a = true := by
   rw [hF, hs]
   revert c
   cases p1 <;> cases p2 <;> cases p3 <;> simp
  rw [e, hs]
  exact ⟨rfl, ⟨rfl, rfl⟩, rfl⟩
 ·have hs : slashB a = true := by simpa using c2
  have e : formB a = false := by
   rw [hF, hs]
   revert c3
   cases digS (cutD a) <;> cases cutD a == [48] <;> cases cutD a == [49] <;> simp
  rw [e]
  exact ⟨rfl, ⟨rfl, rfl⟩, rfl⟩
 ·have hs : slashB a = true := by simpa using c2
  have e : formB a = true := by
   rw [hF, hs]
   revert c c3
   cases digS (cutD a) <;> cases cutD a == [48] <;> cases cutD a == [49] <;> cases p1 <;> cases p2 <;> cases p3 <;> simp
  rw [e, hs]
  exact ⟨rfl, ⟨rfl, rfl⟩, rfl⟩
theorem rcut_C (a : List UInt8) (hl : a.length ≤ 9223372036854775807) : PureCall Tryz.prog [] 196 [.str a] (.tup 2 (listFn [.agg 2 (listFn [.str (bif formB a then cutN a else []), .str (bif formB a then (bif slashB a then cutD a else [49]) else [])]), .b (formB a)])) :=
 pure_of_vc (T := Trc) (an := .auto) mixed Trc_sound (Eq.mp (by kernel_rfl) (rcut_vc a hl))
theorem rcut_T : PureT Tryz.prog [] 196 rcut_t := by
 intro xs ps r h hp
 unfold rcut_t at h
 split at h
 ·skip
  rename_i a
  cases h
  obtain ⟨q0, -⟩ := allC hp
  exact weaken (ys := [.str a]) ⟨avM_refl _, trivial⟩ (rcut_C a q0)
 ·cases h
end Go.Te

namespace Go.Te
open Go Go.Sx Go.Proofs Go.Ar
set_option maxRecDepth 100000
set_option maxHeartbeats 4000000
def denS (a : Str) : Str := bif slashB a then cutD a else [49]
theorem intE_itoa' (n : Int) : intE (Lib.itoa n) = resE n := by
 obtain ⟨h1, h2⟩ := itoa_intB n
 have h3 := lenD_eq h1
 rw [h2] at h3
 unfold intE resE
 rw [h1, h3]
 rfl
theorem vok {a : Str} (h : ratE a = 0) : intE (cutN a) = 0 ∧ intE (denS a) = 0 ∧ valI (cutN a) = ratN a ∧ valI (denS a) = (ratD a : Int) := by
 obtain ⟨h1, h2, h3, _⟩ := ratE_zero.1 h
 have hi : intB (cutN a) = true := by
  unfold formB at h1
  rw [Bool.and_eq_true] at h1
  exact h1.1
 refine ⟨intE_zero.2 ⟨hi, h2⟩, ?_, rfl, ?_⟩
 all_goals
  unfold denS
  cases hs : slashB a with
  | false =>
   first
    | (show intE [49] = 0; exact intE_zero.2 (by decide))
    | (unfold ratD; rw [hs]; show valI [49] = ((1 : Nat) : Int); decide)
  | true =>
   unfold formB at h1
   rw [hs] at h1
   have hd : digS (cutD a) = true := by
    revert h1
    cases digS (cutD a) <;> simp
   obtain ⟨i1, i2⟩ := intB_nat hd
   first
    | exact intE_zero.2 ⟨i1, Nat.le_trans (lenD_le _).1 h3⟩
    | (unfold ratD; rw [hs]; exact i2)
theorem own_ge (s : Str) : s.length ≤ (ownS s).length + 1 := by
 unfold ownS
 cases minB s with
 | true => rw [cond_true, List.length_drop]; omega
 | false => rw [cond_false]; omega
theorem one_iff (g : Nat) : (Lib.itoa (g : Int) == [49]) = Nat.beq g 1 := by
 rw [Go.Ar.itoa_nat, Bool.eq_iff_iff, beq_iff_eq, Nat.beq_eq]
 constructor
 ·intro h
  have := congrArg decV h
  rw [decV_decDigits] at this
  exact this
 ·intro h
  rw [h, decDigits_small (by decide)]; rfl
theorem opm {a b : Str} (ha : ratE a = 0) (hb : ratE b = 0) : opE (fun x1 x2 => x1 * x2) (cutN a) (denS b) = resE (ratN a * (ratD b : Int)) ∧ opS (fun x1 x2 => x1 * x2) (cutN a) (denS b) = resS (ratN a * (ratD b : Int)) := by
 obtain ⟨a1, a2, a3, a4⟩ := vok ha
 obtain ⟨b1, b2, b3, b4⟩ := vok hb
 have hE : bothE (cutN a) (denS b) = 0 := by unfold bothE; rw [a1, b2]; rfl
 obtain ⟨e1, e2⟩ := op_eq (f := fun x1 x2 => x1 * x2) hE
 rw [a3, b4] at e1 e2
 exact ⟨e2, e1⟩
theorem cmp_res {n m : Int} (hn : resE n = 0) (hm : resE m = 0) : cmpV (resS n) (resS m) = cmpI n m ∧ bothE (resS n) (resS m) = 0 ∧ (resS n).length ≤ 4294967280 ∧ (resS m).length ≤ 4294967280 := by
 have e : ∀ k, resE k = 0 → resS k = Lib.itoa k := fun k h => by unfold resS; rw [h]; rfl
 have l : ∀ k, resE k = 0 → (Lib.itoa k).length ≤ 4294967280 := fun k h => by
  rw [itoa_len]
  have : ¬ 300 < nDg k := fun e => by unfold resE at h; rw [(blt_iff _ _).2 e] at h; cases h
  split <;> omega
 rw [e n hn, e m hm]
 have hE : bothE (Lib.itoa n) (Lib.itoa m) = 0 := by
  unfold bothE
  rw [intE_itoa', hn, intE_itoa', hm]
  rfl
 refine ⟨?_, hE, l n hn, l m hm⟩
 unfold cmpV
 rw [hE, (itoa_intB n).2, (itoa_intB m).2]
 rfl
theorem nat_rat {a : Str} (h : natB a = true) : ratE a = 0 ∧ (ratN a).natAbs ≤ 99999999 ∧ ratD a ≤ 99999999 := by
 obtain ⟨h1, h2, h3, h4⟩ := natB_iff.1 h
 obtain ⟨g1, g2, g3⟩ := form_iff.1 h1
 have hr : ratE a = 0 := by
  unfold natB at h
  rw [Bool.and_eq_true, Bool.and_eq_true, beq_iff_eq] at h
  exact h.1.1
 have b := decV_bound g1 (k := 8) h2
 rw [show 10 ^ 8 = 100000000 from by decide] at b
 refine ⟨hr, by rw [ratN_abs]; omega, ?_⟩
 rw [(own_cut (a := a)).2]
 cases hs : slashB (ownS a) with
 | false => show 1 ≤ 99999999; decide
 | true =>
  have b := decV_bound (g3 hs).1 (k := 8) h3
  rw [show 10 ^ 8 = 100000000 from by decide] at b
  simp only [cond_true]
  omega
noncomputable def Trr (G : List (Nat × Obj)) : Tb := ((((tb0 G).plus 196 rcut_t).plus 130 rnat_t).plus 44 (dash_t fun s => .str (ownS s))).plus 191 iGcd_t
theorem Trr_sound {G : List (Nat × Obj)} (hG : TabIn G) : TbSound Tryz.prog (Trr G) := TbSound.plus (TbSound.plus (TbSound.plus (TbSound.plus tb0_sound (PureT.mono rcut_T)) (PureT.mono rnat_T)) (PureT.mono trimP_T)) (iGcd_T hG)
def rread_t : List AV → Option (List Cond × AV)
 | [.str a] => some ([.p (a.length ≤ 9223372036854775807)], .tup 2 (listFn [.agg 2 (listFn [.str (bif ratE a == 0 then cutN a else []), .str (bif ratE a == 0 then denS a else [])]), .i (ratE a)]))
 | _ => none
theorem rread_vc (G : List (Nat × Obj)) (a : List UInt8) (hl : a.length ≤ 9223372036854775807) :
 let q2 := (True ∧ 2 = 2 ∧ (Array.toList (ByteArray.data (ByteArray.mk #[])) = bif ratE a == iZ then cutN a else []) ∧ Array.toList (ByteArray.data (ByteArray.mk #[])) = bif ratE a == iZ then denS a else []); let q1 := (j2 ∧ q2 ∧ kI ∧ (11 : Int) = ratE a); let q4 := (bif formB a then bif slashB a then cutD a else [(49 : UInt8)] else []); let q3 := (j2 ∧ (True ∧ 2 = 2 ∧ ((bif formB a then cutN a else []) = bif ratE a == iZ then cutN a else []) ∧ q4 = bif ratE a == iZ then denS a else []) ∧
 kI ∧ iZ = ratE a); let q7 := (lZ (ownS (bif formB a then cutN a else []))); let q6 := (ltB (300 : Int) q7); let q5 := (!bsel false q6 || bsel false q6); let q8 := (ByteArray.data (ByteArray.mk #[(49 : UInt8)])); let q9 := (bothE (bif formB a then cutN a else []) q4 != iZ); bndL [AV.str a] → lN a ≤ 9223372036854775807 ∧ bsplit (!formB a) q1 (lN a ≤ 9223372036854775807 ∧ bsplit (natB a) q3 (bsplit q5 (bsplit q5 (bsplit q5 (bsplit (!!ltB (300 : Int) q7 || bsel false q6) (bsplit (bif ltB (300 : Int) q7 then true else ltB (300 : Int)
 (lZ q4)) (j2 ∧ q2 ∧ kI ∧ (4 : Int) = ratE a) (bsplit (q4 == Array.toList q8) q3 (lN (bif formB a then cutN a else []) ≤ 4294967280 ∧ lN q4 ≤ 4294967280 ∧ bsplit (!bsel false q9 || bsel false q9) (bsplit (!!bothE (bif formB a then cutN a else []) q4 != iZ || bsel false q9) (bsplit (bif bothE (bif formB a then cutN a else []) q4 != iZ then true else !(bif bothE (bif formB a then cutN a else []) q4 != iZ then [] else Lib.itoa (↑(gcdN (bif formB a then cutN a else []) q4) : Int)) == Array.toList
 q8) q1 q3) False) False))) False) False) False) False)) := by
 delta kI j2 lZ lN iZ
 dsimp only
 intro hb
 simp only [sS, dS, ltB_nat]
 have hFO := formB_own a
 have hden : (bif slashB a then cutD a else [49]) = denS a := rfl
 obtain ⟨o1, o2, o3, o4, o5, o6, o7⟩ := own_parts a
 refine ⟨hl, bsplit_iff.2 ⟨fun c => ?_, fun c => ?_⟩⟩
 ·have c : formB a = false := by simpa using c
  rw [c] at hFO
  rw [ratE_bad hFO.symm]
  exact ⟨rfl, ⟨rfl, rfl⟩, rfl⟩
 have c : formB a = true := by simpa using c
 have hFO' : formO a = true := hFO.symm.trans c
 simp only [c, cond_true, hden]
 have fin : ratE a = 0 → 2 = [AV.junk, AV.junk].length ∧ ((cutN a = bif ratE a == 0 then cutN a else []) ∧ denS a = bif ratE a == 0 then denS a else []) ∧ 0 = ratE a := fun h => by rw [h]; exact ⟨rfl, ⟨rfl, rfl⟩, rfl⟩
 have bad : ∀ e : Int, e ≠ 0 → ratE a = e → 2 = [AV.junk, AV.junk].length ∧ (([] = bif ratE a == 0 then cutN a else []) ∧ [] = bif ratE a == 0 then denS a else []) ∧ e = ratE a := fun e h0 h => by
  rw [h, beq_eq_false_iff_ne.2 h0]; exact ⟨rfl, ⟨rfl, rfl⟩, rfl⟩
 have hlen : (ownS (cutN a)).length = (cutN (ownS a)).length := by rw [← (int_own (cutN a)).2, o5]
 have hcd := cutN_len a
 have hdd := cutD_len a
 refine ⟨hl, bsplit_iff.2 ⟨fun k => fin (nat_rat k).1, fun k => bsplit_iff.2 ⟨fun k2 => bad 4 (by decide) (ratE_long hFO' ?_), fun k2 => bsplit_iff.2 ⟨fun k3 => ?_, fun k3 => ?_⟩⟩⟩⟩
 ·rw [Bool.or_eq_true, ltB_iff, ltB_iff, hlen] at k2
  rcases k2 with k2 | k2
  ·exact .inl (by omega)
  ·refine .inr ?_
   rw [← o2]
   unfold denS at k2
   cases hs : slashB a with
   | true => rw [hs, cond_true] at k2; omega
   | false => rw [hs, cond_false] at k2; exact absurd k2 (by decide)
 ·have hs : slashB a = false := by
   cases hs : slashB a with
   | false => rfl
   | true =>
    unfold denS at k3
    rw [hs, cond_true] at k3
    have := (form_iff.1 hFO').2.2 (by rw [← o3]; exact hs)
    rw [← o2] at this
    exact absurd (eq_of_beq k3) this.2.2
  rw [Bool.or_eq_false_iff, Bool.eq_false_iff, Ne, ltB_iff, hlen] at k2
  exact fin (ratE_int hFO' (by omega) (by rw [← o3]; exact hs))
 ·have hs : slashB a = true := by
   cases hs : slashB a with
   | true => rfl
   | false => unfold denS at k3; rw [hs] at k3; cases k3
  have hdS : denS a = cutD a := by unfold denS; rw [hs]; rfl
  rw [hdS] at k2 bad fin ⊢
  rw [Bool.or_eq_false_iff, Bool.eq_false_iff, Bool.eq_false_iff, Ne, Ne, ltB_iff, ltB_iff, hlen] at k2
  have e2 := ratE_gcd hFO' ⟨by omega, by rw [← o2]; omega⟩ (by rw [← o3]; exact hs)
  have g := (form_iff.1 hFO').2.2 (by rw [← o3]; exact hs)
  rw [← o2] at g e2
  obtain ⟨i1, i2⟩ := intB_nat g.1
  have hi : intB (cutN a) = true := by
   have := c
   unfold formB at this
   rw [Bool.and_eq_true] at this
   exact this.1
  have hE : bothE (cutN a) (cutD a) = 0 := by
   have l2 := (lenD_le (cutD a)).1
   have q1 : intE (cutN a) = 0 := intE_zero.2 ⟨hi, by rw [o5]; omega⟩
   have q2 : intE (cutD a) = 0 := intE_zero.2 ⟨i1, by omega⟩
   unfold bothE
   rw [q1, q2]; rfl
  have hg : gcdN (cutN a) (cutD a) = Nat.gcd (decV (cutN (ownS a))) (decV (cutD a)) := by
   unfold gcdN
   rw [i2, Int.natAbs_natCast, ← ratN_abs]
   rfl
  have hge := own_ge (cutN a)
  rw [hE]
  simp only [bne_self_eq_false, cond_false, Bool.false_or, one_iff, hg]
  refine ⟨by omega, by omega, bsplit_iff.2 ⟨fun k4 => bad 11 (by decide) ?_, fun k4 => ?_⟩⟩
  ·rw [e2, show Nat.beq (Nat.gcd (decV (cutN (ownS a))) (decV (cutD a))) 1 = false by rw [Bool.not_eq_true'] at k4; exact k4]; rfl
  ·exact fin (by rw [e2, show Nat.beq (Nat.gcd (decV (cutN (ownS a))) (decV (cutD a))) 1 = true by rw [Bool.not_eq_false'] at k4; exact k4]; rfl)
theorem rread_C {G : List (Nat × Obj)} (hG : TabIn G) (a : List UInt8) (hl : a.length ≤ 9223372036854775807) : PureCall Tryz.prog G 132 [.str a] (.tup 2 (listFn [.agg 2 (listFn [.str (bif ratE a == 0 then cutN a else []), .str (bif ratE a == 0 then denS a else [])]), .i (ratE a)])) :=
 pure_of_vc (T := Trr G) (an := .auto) mixed (Trr_sound hG) (Eq.mp (by kernel_rfl) (rread_vc G a hl))
theorem rread_T {G : List (Nat × Obj)} (hG : TabIn G) : PureT Tryz.prog G 132 rread_t := by
 intro xs ps r h hp
 unfold rread_t at h
 split at h
 ·skip
  rename_i a
  cases h
  obtain ⟨q0, -⟩ := allC hp
  exact weaken (ys := [.str a]) ⟨avM_refl _, trivial⟩ (rread_C hG a q0)
 ·cases h
def rchk_t : List AV → Option (List Cond × AV)
 | [.str a] => some ([.p (a.length ≤ 9223372036854775807)], .i (ratE a))
 | _ => none
theorem rchk_vc (G : List (Nat × Obj)) (a : List UInt8) (hl : a.length ≤ 9223372036854775807) :
 bndL [AV.str a] → lN a ≤ 9223372036854775807 ∧ kI ∧ ratE a = ratE a := by
 delta kI lN
 intro hb
 simp only [sS, dS, ltB_nat]
 exact hl
theorem rchk_C {G : List (Nat × Obj)} (hG : TabIn G) (a : List UInt8) (hl : a.length ≤ 9223372036854775807) : PureCall Tryz.prog G 110 [.str a] (.i (ratE a)) :=
 pure_of_vc (T := (tb0 G).plus 132 rread_t) (an := .auto) mixed (TbSound.plus tb0_sound (rread_T hG)) (Eq.mp (by kernel_rfl) (rchk_vc G a hl))
theorem rchk_T {G : List (Nat × Obj)} (hG : TabIn G) : PureT Tryz.prog G 110 rchk_t := by
 intro xs ps r h hp
 unfold rchk_t at h
 split at h
 ·skip
  rename_i a
  cases h
  obtain ⟨q0, -⟩ := allC hp
  exact weaken (ys := [.str a]) ⟨avM_refl _, trivial⟩ (rchk_C hG a q0)
 ·cases h
def rcE (a b : Str) : Int := bif ratE a != 0 then ratE a else bif ratE b != 0 then ratE b else bif resE (ratN a * (ratD b : Int)) != 0 then resE (ratN a * (ratD b : Int)) else resE (ratN b * (ratD a : Int))
def rcV (a b : Str) : Int := bif rcE a b == 0 then cmpI (ratN a * (ratD b : Int)) (ratN b * (ratD a : Int)) else 0
noncomputable def Tcm0 (G : List (Nat × Obj)) : Tb := (((((tb0 G).plus 132 rread_t).plus 130 rnat_t).plus 145 iMul_t).plus 134 iCmp_t).plus 131 ccmp_t
theorem Tcm0_sound {G : List (Nat × Obj)} (hG : TabIn G) : TbSound Tryz.prog (Tcm0 G) := TbSound.plus (TbSound.plus (TbSound.plus (TbSound.plus (TbSound.plus tb0_sound (rread_T hG)) (PureT.mono rnat_T)) (iMul_T hG)) (iCmp_T hG)) (PureT.mono ccmp_T)
noncomputable def Tcm (G : List (Nat × Obj)) : Tb := (Tcm0 G).body Tryz.prog [(133, .auto)]
theorem Tcm_sound {G : List (Nat × Obj)} (hG : TabIn G) : TbSound Tryz.prog (Tcm G) := TbSound.body mixed (Tcm0_sound hG) _
def rCmp_t : List AV → Option (List Cond × AV)
 | [.str a, .str b] => some ([.p (a.length ≤ 9223372036854775807), .p (b.length ≤ 9223372036854775807)], .tup 2 (listFn [.i (rcV a b), .i (rcE a b)]))
 | _ => none
theorem rCmp_vc (G : List (Nat × Obj)) (a : List UInt8) (b : List UInt8) (hla : a.length ≤ 9223372036854775807) (hlb : b.length ≤ 9223372036854775807) :
 let q1 := ((bif natB a then ratN a else iZ) * bif natB b then (↑(ratD b) : Int) else iZ); let q2 := ((bif natB b then ratN b else iZ) * bif natB a then (↑(ratD a) : Int) else iZ); let q4 := (True ∧ kI ∧ iZ = rcV a b); let q5 := (bif ratE a == iZ then cutN a else []); let q6 := (bif ratE b == iZ then denS b else []); let q7 := (opE (fun (x1 x2 : Int) => x1 * x2) q5 q6 != iZ); let q8 := (Array.toList (ByteArray.data (ByteArray.mk #[]))); let q9 := (bif ratE b == iZ then cutN b else []); let q10 := (bif ratE a == (0 :
 Int) then denS a else []); let q11 := (opS (fun (x1 x2 : Int) => x1 * x2) q5 q6); let q12 := (opS (fun (x1 x2 : Int) => x1 * x2) q9 q10); let q3 := (lN a ≤ 9223372036854775807 ∧ bsplit (ratE a != iZ) (j2 ∧ q4 ∧ kI ∧ ratE a = rcE a b) (lN b ≤ 9223372036854775807 ∧ bsplit (ratE b != iZ) (j2 ∧ q4 ∧ kI ∧ ratE b = rcE a b) (lN q5 ≤ 4294967280 ∧ lN q6 ≤ 4294967280 ∧ bsplit q7 (bsplit q7 (j2 ∧ q4 ∧ kI ∧ opE
 (fun (x1 x2 : Int) => x1 * x2) q5 q6 = rcE a b) (0 ≤ 4294967280 ∧ 0 ≤ 4294967280 ∧ j2 ∧ (True ∧ kI ∧ cmpV q8 q8 = rcV a b) ∧ kI ∧ bothE q8 q8 = rcE a b)) (lN q9 ≤ 4294967280 ∧ lN q10 ≤ 4294967280 ∧ bsplit (opE (fun (x1 x2 : Int) => x1 * x2) q9 q10 != iZ) (j2 ∧ q4 ∧ kI ∧ opE (fun (x1 x2 : Int) => x1 * x2) q9 q10 = rcE a b) (lN q11 ≤ 4294967280 ∧ lN q12 ≤ 4294967280 ∧ j2 ∧ (True ∧ kI ∧ cmpV q11
 q12 = rcV a b) ∧ kI ∧ bothE q11 q12 = rcE a b))))); bndL [AV.str a, AV.str b] → lN a ≤ 9223372036854775807 ∧ bsplit (natB a) (lN b ≤ 9223372036854775807 ∧ bsplit (natB b) (bsplit (DB.db (inK .i64 q1)) (bsplit (DB.db (inK .i64 q2)) (j2 ∧ (True ∧ kI ∧ cmpI q1 q2 = rcV a b) ∧ kI ∧ iZ = rcE a b) False) False) q3) q3 := by
 delta kI j2 lN iZ
 dsimp only
 intro hb
 simp only [sS, dS, ltB_nat]
 have ncd := cutN_len a
 have ncb := cutN_len b
 have dl : ∀ a : Str, ratE a = 0 → (denS a).length ≤ 301 := fun a h => by have := (ratE_zero.1 h).2.2.1; unfold denS; cases slashB a <;> simp <;> omega
 have eA : ratE a ≠ 0 → 0 = rcV a b ∧ ratE a = rcE a b := fun h => by
  have e : rcE a b = ratE a := by unfold rcE; rw [bne_iff_ne.2 h]; rfl
  unfold rcV
  rw [e, beq_eq_false_iff_ne.2 h]
  exact ⟨rfl, rfl⟩
 have eB : ratE a = 0 → ratE b ≠ 0 → 0 = rcV a b ∧ ratE b = rcE a b := fun h0 h => by
  have e : rcE a b = ratE b := by unfold rcE; rw [h0, bne_iff_ne.2 h]; rfl
  unfold rcV
  rw [e, beq_eq_false_iff_ne.2 h]
  exact ⟨rfl, rfl⟩
 have eC : ratE a = 0 → ratE b = 0 → resE (ratN a * (ratD b : Int)) ≠ 0 → 0 = rcV a b ∧ resE (ratN a * (ratD b : Int)) = rcE a b := fun h0 h1 h => by
  have e : rcE a b = resE (ratN a * (ratD b : Int)) := by unfold rcE; rw [h0, h1, bne_iff_ne.2 h]; rfl
  unfold rcV
  rw [e, beq_eq_false_iff_ne.2 h]
  exact ⟨rfl, rfl⟩
 have eD : ratE a = 0 → ratE b = 0 → resE (ratN a * (ratD b : Int)) = 0 → rcE a b = resE (ratN b * (ratD a : Int)) := fun h0 h1 h => by
  unfold rcE; rw [h0, h1, h]; rfl
 have big : ratE a = 0 → ratE b = 0 → _ := fun h0 h1 => And.intro (opm h0 h1) (opm h1 h0)
 refine ⟨hla, bsplit_iff.2 ⟨fun c => ⟨hlb, bsplit_iff.2 ⟨fun c2 => ?_, fun c2 => ?_⟩⟩, fun c => ?_⟩⟩
 ·obtain ⟨a1, a2, a3⟩ := nat_rat c
  obtain ⟨b1, b2, b3⟩ := nat_rat c2
  rw [c, c2]
  simp only [cond_true]
  have m1 : (ratN a * (ratD b : Int)).natAbs ≤ 99999999 * 99999999 := by rw [Int.natAbs_mul, Int.natAbs_natCast]; exact Nat.mul_le_mul a2 b3
  have m2 : (ratN b * (ratD a : Int)).natAbs ≤ 99999999 * 99999999 := by rw [Int.natAbs_mul, Int.natAbs_natCast]; exact Nat.mul_le_mul b2 a3
  obtain ⟨r1, r2⟩ := res_small (n := ratN a * (ratD b : Int)) (k := 20) (by omega) (by omega) (by omega)
  obtain ⟨r3, r4⟩ := res_small (n := ratN b * (ratD a : Int)) (k := 20) (by omega) (by omega) (by omega)
  have e := eD a1 b1 r2
  rw [r4] at e
  unfold rcV
  rw [e]
  exact ⟨⟨by omega, by omega⟩, ⟨by omega, by omega⟩, rfl, rfl, rfl⟩
 all_goals
  refine ⟨hla, fun h => ⟨rfl, eA h⟩, fun h0 => ⟨hlb, fun h => ⟨rfl, eB h0 h⟩, fun h1 => ?_⟩⟩
  obtain ⟨⟨p1, p2⟩, p3, p4⟩ := big h0 h1
  have dla := dl a h0
  have dlb := dl b h1
  have nla := (ratE_zero.1 h0).2.1
  have nlb := (ratE_zero.1 h1).2.1
  have ll1 := (lenD_le (cutN a)).2
  have ll2 := (lenD_le (cutN b)).2
  rw [h0, h1]
  simp only [beq_self_eq_true, cond_true, p1, p2, p3, p4]
  refine ⟨by omega, by omega, fun h => ⟨fun _ => ⟨rfl, eC h0 h1 h⟩, fun h2 => absurd h2 h⟩, fun h => ⟨by omega, by omega, fun h2 => ?_, fun h2 => ?_⟩⟩
  ·have e := eD h0 h1 h
   unfold rcV
   rw [e, beq_eq_false_iff_ne.2 h2]
   exact ⟨rfl, rfl, rfl⟩
  ·have e := eD h0 h1 h
   rw [h2] at e
   obtain ⟨q1, q2, q3, q4⟩ := cmp_res h h2
   unfold rcV
   rw [e, q1, q2]
   exact ⟨q3, q4, rfl, rfl, rfl⟩
theorem rCmp_C {G : List (Nat × Obj)} (hG : TabIn G) (a : List UInt8) (b : List UInt8) (hla : a.length ≤ 9223372036854775807) (hlb : b.length ≤ 9223372036854775807) : PureCall Tryz.prog G 90 [.str a, .str b] (.tup 2 (listFn [.i (rcV a b), .i (rcE a b)])) :=
 pure_of_vc (T := Tcm G) (an := .auto) mixed (Tcm_sound hG) (Eq.mp (by kernel_rfl) (rCmp_vc G a b hla hlb))
theorem rCmp_T {G : List (Nat × Obj)} (hG : TabIn G) : PureT Tryz.prog G 90 rCmp_t := by
 intro xs ps r h hp
 unfold rCmp_t at h
 split at h
 ·skip
  rename_i a b
  cases h
  obtain ⟨q0, q1, -⟩ := allC hp
  exact weaken (ys := [.str a, .str b]) ⟨avM_refl _, avM_refl _, trivial⟩ (rCmp_C hG a b q0 q1)
 ·cases h
end Go.Te
