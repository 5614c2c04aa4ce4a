/- rational: opposite, number; numbers with short parts made into strings. -/
import Derived.Test.YtdkpceodckdcfaaGreatDoorTeM
import Derived.Test.YtdkpceodckdcfaaGreatDoorTeJ
import Derived.Test.YtdkpceodckdcfaaGreatDoorTeIj
set_option linter.unusedSimpArgs false
set_option linter.unusedVariables false
namespace Go.Te
open Go Go.Sx Go.Proofs Go.Ar
set_option maxRecDepth 100000
set_option maxHeartbeats 4000000
structure Nt where
 n : Int
 d : Int
instance : Enc Nt := ⟨2, ⟨0, 0⟩, fun c => listFn [.i c.n, .i c.d], fun cs => ⟨AV.int (cs 0), AV.int (cs 1)⟩, fun cs => isI64 (cs 0) && isI64 (cs 1), fun cs h j hj => by
 simp only [Bool.and_eq_true] at h
 match j, hj with
 | 0, _ => exact avM_of_eq (isI64_eq h.1)
 | 1, _ => exact avM_of_eq (isI64_eq h.2)⟩
instance : LawEnc Nt := ⟨fun _ => rfl, fun _ => rfl⟩
def sgQ (n d : Int) : Str := bif ltB d 0 then showQ (-n) (-d).toNat else showQ n d.toNat
theorem gcdO_max (n : Int) {d : Int} (hd : 0 < d) : gcdO (if -n > n then -n else n) d = (Nat.gcd n.natAbs d.toNat : Int) := by
 have e : (if -n > n then -n else n) = (n.natAbs : Int) := by split <;> omega
 unfold gcdO
 rw [e, (leB_iff _ _).2 (show (0 : Int) ≤ (n.natAbs : Int) by omega), (leB_iff _ _).2 (show 0 ≤ d by omega), Int.toNat_natCast]
 rfl
theorem gcd_red (n : Int) {d : Int} (hd : 0 < d) : (0 : Int) < (Nat.gcd n.natAbs d.toNat : Int) ∧ n.tdiv (Nat.gcd n.natAbs d.toNat : Int) = n / (Nat.gcd n.natAbs d.toNat : Int) ∧ d.tdiv (Nat.gcd n.natAbs d.toNat : Int) = ((d.toNat / Nat.gcd n.natAbs d.toNat : Nat) : Int) ∧ (n / (Nat.gcd n.natAbs d.toNat : Int)).natAbs ≤ n.natAbs ∧ 0 < d.toNat / Nat.gcd n.natAbs d.toNat ∧ d.toNat / Nat.gcd n.natAbs d.toNat ≤ d.toNat := by
 have hg : 0 < Nat.gcd n.natAbs d.toNat := Nat.gcd_pos_of_pos_right _ (by omega)
 have hdv := Nat.gcd_dvd_right n.natAbs d.toNat
 have hnv : ((Nat.gcd n.natAbs d.toNat : Nat) : Int) ∣ n := Int.ofNat_dvd_left.2 (Nat.gcd_dvd_left _ _)
 generalize Nat.gcd n.natAbs d.toNat = g at *
 have e1 : n.tdiv (g : Int) = n / (g : Int) := Int.tdiv_eq_ediv_of_dvd hnv
 refine ⟨by omega, e1, ?_, ?_, Nat.div_pos (Nat.le_of_dvd (by omega) hdv) hg, Nat.div_le_self _ _⟩
 ·rw [Int.tdiv_eq_ediv_of_nonneg (by omega), Int.natCast_ediv]
  congr 1
  omega
 ·rw [← e1]; exact Int.natAbs_tdiv_le_natAbs n g
theorem showQ_at (n : Int) (d : Nat) : (d / Nat.gcd n.natAbs d = 1 → Lib.itoa (n / (Nat.gcd n.natAbs d : Int)) = showQ n d) ∧ (d / Nat.gcd n.natAbs d ≠ 1 → Lib.itoa (n / (Nat.gcd n.natAbs d : Int)) ++ [47] ++ Lib.itoa ((d / Nat.gcd n.natAbs d : Nat) : Int) = showQ n d) := by
 unfold showQ showR
 refine ⟨fun h => ?_, fun h => ?_⟩
 ·rw [h]
  exact (List.append_nil _).symm
 ·rw [show Nat.beq (d / Nat.gcd n.natAbs d) 1 = false from Bool.eq_false_iff.2 fun e => h (Nat.eq_of_beq_eq_true e), Go.Ar.itoa_nat]
  simp
theorem itoaL {n : Int} (h : n.natAbs < 10 ^ 20) : (Lib.itoa n).length ≤ 21 := by
 rw [itoa_len]
 have : nDg n ≤ 20 := nDg_le (by omega) h
 split <;> omega
def qnat_t : List AV → Option (List Cond × AV)
 | [.agg 2 p_x] => some ([.b (isI64 (p_x 0) && isI64 (p_x 1)), .p ((⟨AV.int (p_x 0), AV.int (p_x 1)⟩ : Nt).d ≠ 0), .p (-1000000000000000000 ≤ (⟨AV.int (p_x 0), AV.int (p_x 1)⟩ : Nt).d ∧ (⟨AV.int (p_x 0), AV.int (p_x 1)⟩ : Nt).d ≤ 1000000000000000000), .p (-1000000000000000000 ≤ (⟨AV.int (p_x 0), AV.int (p_x 1)⟩ : Nt).n ∧ (⟨AV.int (p_x 0), AV.int (p_x 1)⟩ : Nt).n ≤ 1000000000000000000)], .str (sgQ (⟨AV.int (p_x 0), AV.int (p_x 1)⟩ : Nt).n (⟨AV.int (p_x 0), AV.int (p_x 1)⟩ : Nt).d))
 | _ => none
theorem qnat_vc (G : List (Nat × Obj)) (x : Nt) (h0 : x.d ≠ 0) (h1 : -1000000000000000000 ≤ x.d ∧ x.d ≤ 1000000000000000000) (h2 : -1000000000000000000 ≤ x.n ∧ x.n ≤ 1000000000000000000) :
 let q1 := (if - -Nt.n x > -Nt.n x then - -Nt.n x else -Nt.n x); let q2 := (DB.db (gcdO q1 (-Nt.d x) ≠ iZ)); let q4 := (gcdO q1 (-Nt.d x)); let q3 := (Int.tdiv (-Nt.n x) q4); let q5 := (Int.tdiv (-Nt.d x) q4); let q6 := (iN ≤ Int.tdiv (-Nt.n x) q4 ∧ Int.tdiv (-Nt.n x) q4 ≤ iX); let q7 := (ByteArray.data (ByteArray.mk #[(47 : UInt8)])); let q8 := (if -Nt.n x > Nt.n x then -Nt.n x else Nt.n x); let q9 := (DB.db (gcdO q8 (Nt.d x) ≠ iZ)); let q11 := (gcdO q8 (Nt.d x)); let q10 := (Int.tdiv (Nt.n x) q11); let q12 := (Int.tdiv (Nt.d x)
 q11); let q13 := (iN ≤ Int.tdiv (Nt.n x) q11 ∧ Int.tdiv (Nt.n x) q11 ≤ iX); bndL [AV.agg 2 (Enc.enc x)] → bsplit (ltB (Nt.d x) iZ) (bsplit (DB.db (inK .i64 (-Nt.n x))) (bsplit (DB.db (inK .i64 (-Nt.d x))) (bsplit (DB.db (inK .i64 (- -Nt.n x))) (((iZ ≤ if - -Nt.n x > -Nt.n x then - -Nt.n x else -Nt.n x) ∧ q1 ≤ iX) ∧ (iZ ≤ -Nt.d x ∧ -Nt.d x ≤ iX) ∧ bsplit q2 (bsplit (DB.db (inK .i64 q3)) (bsplit q2 (bsplit (DB.db (inK .i64 q5)) (bsplit (Int.tdiv (-Nt.d x) q4 == iO) (q6
 ∧ Lib.itoa q3 = sgQ (Nt.n x) (Nt.d x)) (q6 ∧ bsplit (DB.db (lN (Lib.itoa q3) + 1 ≤ 9223372036854775807)) ((iN ≤ Int.tdiv (-Nt.d x) q4 ∧ Int.tdiv (-Nt.d x) q4 ≤ iX) ∧ bsplit (DB.db (lN (Lib.itoa q3 ++ Array.toList q7) + lN (Lib.itoa q5) ≤ 9223372036854775807)) (Lib.itoa q3 ++ Array.toList q7 ++ Lib.itoa q5 = sgQ (Nt.n x) (Nt.d x)) False) False)) False) False) False) False) False) False) False) (bsplit (DB.db (inK .i64 (-Nt.n x))) (((iZ ≤ if -Nt.n x > Nt.n x then -Nt.n x else Nt.n x) ∧ q8 ≤ (9223372036854775807 :
 Int)) ∧ (iZ ≤ Nt.d x ∧ Nt.d x ≤ iX) ∧ bsplit q9 (bsplit (DB.db (inK .i64 q10)) (bsplit q9 (bsplit (DB.db (inK .i64 q12)) (bsplit (Int.tdiv (Nt.d x) q11 == iO) (q13 ∧ Lib.itoa q10 = sgQ (Nt.n x) (Nt.d x)) (q13 ∧ bsplit (DB.db (lN (Lib.itoa q10) + 1 ≤ 9223372036854775807)) ((iN ≤ Int.tdiv (Nt.d x) q11 ∧ Int.tdiv (Nt.d x) q11 ≤ iX) ∧ bsplit (DB.db (lN (Lib.itoa q10 ++ Array.toList q7) + lN (Lib.itoa q12) ≤ 9223372036854775807)) (Lib.itoa q10 ++ Array.toList q7 ++ Lib.itoa q12 = sgQ
 (Nt.n x) (Nt.d x)) False) False)) False) False) False) False) False) := by
 delta lN iZ iO iX iN
 dsimp only
 intro hb
 simp only [sS, dS]
 have key : ∀ n d : Int, 0 < d → d ≤ 1000000000000000000 → -1000000000000000000 ≤ n ∧ n ≤ 1000000000000000000 → _ := fun n d hd hd1 hn => And.intro (gcdO_max n hd) (And.intro (gcd_red n hd) (showQ_at n d.toNat))
 refine ⟨fun hd => ?_, fun hd => ?_⟩
 ·obtain ⟨k1, ⟨k2, k3, k4, k5, k6, k7⟩, k8, k9⟩ := key (-x.n) (-x.d) (by omega) (by omega) ⟨by omega, by omega⟩
  have hs : sgQ x.n x.d = showQ (-x.n) (-x.d).toNat := by unfold sgQ; rw [(ltB_iff _ _).2 hd]; rfl
  rw [k1, k3, k4, hs]
  generalize showQ (-x.n) (-x.d).toNat = R at *
  generalize Nat.gcd (-x.n).natAbs (-x.d).toNat = g at *
  generalize (-x.n) / (g : Int) = q at *
  generalize (-x.d).toNat / g = e at *
  have l1 := itoaL (n := q) (by omega)
  have l2 := itoaL (n := (e : Int)) (by omega)
  refine ⟨⟨by omega, by omega⟩, ⟨by omega, by omega⟩, ⟨by omega, by omega⟩, ⟨by split <;> omega, by split <;> omega⟩, ⟨by omega, by omega⟩, by omega, ⟨by omega, by omega⟩, by omega, ⟨by omega, by omega⟩, fun h => ⟨⟨by omega, by omega⟩, k8 (by omega)⟩, fun h => ⟨⟨by omega, by omega⟩, by omega, ⟨by omega, by omega⟩, by rw [List.length_append, List.length_singleton]; omega, k9 (by omega)⟩⟩
 ·obtain ⟨k1, ⟨k2, k3, k4, k5, k6, k7⟩, k8, k9⟩ := key x.n x.d (by omega) (by omega) h2
  have hs : sgQ x.n x.d = showQ x.n x.d.toNat := by unfold sgQ; rw [show ltB x.d 0 = false from Bool.eq_false_iff.2 fun e => by have := (ltB_iff _ _).1 e; omega]; rfl
  rw [k1, k3, k4, hs]
  generalize showQ x.n x.d.toNat = R at *
  generalize Nat.gcd x.n.natAbs x.d.toNat = g at *
  generalize x.n / (g : Int) = q at *
  generalize hD : x.d.toNat / g = e at *
  have l1 := itoaL (n := q) (by omega)
  have l2 := itoaL (n := (e : Int)) (by omega)
  refine ⟨⟨by omega, by omega⟩, ⟨by split <;> omega, by split <;> omega⟩, ⟨by omega, by omega⟩, by omega, ⟨by omega, by omega⟩, by omega, ⟨by omega, by omega⟩, fun h => ⟨⟨by omega, by omega⟩, k8 (by omega)⟩, fun h => ⟨⟨by omega, by omega⟩, by omega, ⟨by omega, by omega⟩, by rw [List.length_append, List.length_singleton]; omega, k9 (by omega)⟩⟩
theorem qnat_C {G : List (Nat × Obj)} (hG : TabIn G) (x : Nt) (h0 : x.d ≠ 0) (h1 : -1000000000000000000 ≤ x.d ∧ x.d ≤ 1000000000000000000) (h2 : -1000000000000000000 ≤ x.n ∧ x.n ≤ 1000000000000000000) : PureCall Tryz.prog G 143 [agE x] (.str (sgQ x.n x.d)) :=
 pure_of_vc (T := (TIt G).plus 194 rgcd_t) (an := .auto) mixed (TbSound.plus (TIt_sound hG) (PureT.mono rgcd_T)) (Eq.mp (by kernel_rfl) (qnat_vc G x h0 h1 h2))
theorem qnat_T {G : List (Nat × Obj)} (hG : TabIn G) : PureT Tryz.prog G 143 qnat_t := by
 intro xs ps r h hp
 unfold qnat_t at h
 split at h
 ·skip
  rename_i p_x
  cases h
  obtain ⟨q0, q1, q2, q3, -⟩ := allC hp
  exact weaken (ys := [agE (⟨AV.int (p_x 0), AV.int (p_x 1)⟩ : Nt)]) ⟨agE_sound (x := .agg 2 p_x) (α := Nt) q0, trivial⟩ (qnat_C hG (⟨AV.int (p_x 0), AV.int (p_x 1)⟩ : Nt) q1 q2 q3)
 ·cases h
def oppS (s : Str) : Str := bif s == [48] then s else bif minB s then ownS s else 45 :: s
def qopp_t : List AV → Option (List Cond × AV)
 | [.str s] => some ([.p (s.length ≤ 4294967280)], .str (oppS s))
 | _ => none
theorem qopp_vc (s : List UInt8) (hl : s.length ≤ 4294967280) :
 bndL [AV.str s] → bsplit (s == Array.toList (ByteArray.data (ByteArray.mk #[(48 : UInt8)]))) (s = oppS s) (bsplit (minB s) (ownS s = oppS s) (bsplit (DB.db (1 + lN s ≤ 9223372036854775807)) (Array.toList (ByteArray.data (ByteArray.mk #[(45 : UInt8)])) ++ s = oppS s) False)) := by
 delta lN
 intro hb
 simp only [sS, dS]
 unfold oppS
 refine bsplit_iff.2 ⟨fun c => by rw [c]; rfl, fun c => bsplit_iff.2 ⟨fun c2 => by rw [c, c2]; rfl, fun c2 => ⟨by omega, by rw [c, c2]; rfl⟩⟩⟩
theorem qopp_C (s : List UInt8) (hl : s.length ≤ 4294967280) : PureCall Tryz.prog [] 190 [.str s] (.str (oppS s)) :=
 pure_of_vc (T := T0.plus 210 (dash_t fun s => .tup 2 (listFn [.str (ownS s), .b (minB s)]))) (an := .auto) mixed (TbSound.plus tb0_sound cutP_T) (Eq.mp (by kernel_rfl) (qopp_vc s hl))
theorem qopp_T : PureT Tryz.prog [] 190 qopp_t := by
 intro xs ps r h hp
 unfold qopp_t at h
 split at h
 ·skip
  rename_i s
  cases h
  obtain ⟨q0, -⟩ := allC hp
  exact weaken (ys := [.str s]) ⟨avM_refl _, trivial⟩ (qopp_C s q0)
 ·cases h
theorem oppS_int {s : Str} (h : intE s = 0) : intE (oppS s) = 0 ∧ valI (oppS s) = -valI s ∧ (oppS s).length ≤ 302 := by
 obtain ⟨h1, h2⟩ := intE_zero.1 h
 have e : oppS s = Lib.itoa (-valI s) := by
  unfold oppS
  by_cases h0 : s = [48]
  ·subst h0
   show [48] = Lib.itoa ((0 : Nat) : Int)
   rw [Go.Ar.itoa_nat, decDigits_small (by omega)]; rfl
  rw [beq_eq_false_iff_ne.2 h0, cond_false]
  rcases intB_cases h1 with ⟨r, rfl, g1, g2, g3⟩ | ⟨g1, g3⟩
  ·rw [g3, Int.neg_neg, Go.Ar.itoa_nat, decDigits_decV g1]
   rfl
  ·have hm : minB s = false := by
    cases hm : minB s with
    | false => rfl
    | true =>
     match s, hm, g1 with
     | c :: r, hm, g1 =>
      have hc : c = 45 := eq_of_beq hm
      subst hc
      exact (digS_not45 g1).elim
   have hz : decV s ≠ 0 := fun hz => h0 (decV_zero g1 hz)
   rw [hm, cond_false, g3, Go.Ar.itoa_neg hz, decDigits_decV g1]
 have hl := (lenD_le (oppS s)).2
 have hE : intE (oppS s) = 0 := by
  rw [e, intE_itoa']
  unfold resE nDg
  rw [Int.natAbs_neg]
  rw [lenD_eq h1] at h2
  unfold nDg at h2
  rw [show Nat.blt 300 (Lib.nDigits (valI s).natAbs) = false from Bool.eq_false_iff.2 fun e => by have := (blt_iff _ _).1 e; omega]
  rfl
 exact ⟨hE, by rw [e, (itoa_intB _).2], by have := (intE_zero.1 hE).2; omega⟩
theorem qn_end {N : Int} {D : Nat} {n d : Str} (hn : n = Lib.itoa (N / (Nat.gcd N.natAbs D : Int))) (hd : d = Lib.itoa ((D / Nat.gcd N.natAbs D : Nat) : Int)) (ln : n.length ≤ 400) (ld : d.length ≤ 400) :
  bsplit (d == [49]) (2 = [AV.junk, AV.junk].length ∧ n = showQ N D) (n.length + 1 ≤ 9223372036854775807 ∧ (n ++ [47]).length + d.length ≤ 9223372036854775807 ∧ 2 = [AV.junk, AV.junk].length ∧ n ++ [47] ++ d = showQ N D) := by
 obtain ⟨s1, s2⟩ := showQ_at N D
 have e := one_iff (D / Nat.gcd N.natAbs D)
 rw [← hd] at e
 refine bsplit_iff.2 ⟨fun c => ⟨rfl, ?_⟩, fun c => ⟨by omega, by rw [List.length_append, List.length_singleton]; omega, rfl, ?_⟩⟩
 ·rw [c] at e
  rw [hn]; exact s1 (Nat.eq_of_beq_eq_true e.symm)
 ·rw [c] at e
  rw [hn, hd]; exact s2 fun h => by rw [h] at e; cases e
theorem qn_all {n d : Str} (hn : intE n = 0) (hd : intE d = 0) (hp : 0 < valI d) : bothE n d = 0 ∧ (Lib.itoa (gcdN n d : Int)).length ≤ 400 ∧ n.length ≤ 400 ∧ d.length ≤ 400 ∧
  bsplit (!Lib.itoa (gcdN n d : Int) == [49])
   (bsplit (divQ d (Lib.itoa (gcdN n d : Int)) == [49]) (2 = [AV.junk, AV.junk].length ∧ divQ n (Lib.itoa (gcdN n d : Int)) = showQ (valI n) (valI d).toNat)
    (List.length (divQ n (Lib.itoa (gcdN n d : Int))) + 1 ≤ 9223372036854775807 ∧ List.length (divQ n (Lib.itoa (gcdN n d : Int)) ++ [47]) + List.length (divQ d (Lib.itoa (gcdN n d : Int))) ≤ 9223372036854775807 ∧
     2 = [AV.junk, AV.junk].length ∧ divQ n (Lib.itoa (gcdN n d : Int)) ++ [47] ++ divQ d (Lib.itoa (gcdN n d : Int)) = showQ (valI n) (valI d).toNat))
   (bsplit (d == [49]) (2 = [AV.junk, AV.junk].length ∧ n = showQ (valI n) (valI d).toNat) (n.length + 1 ≤ 9223372036854775807 ∧ (n ++ [47]).length + d.length ≤ 9223372036854775807 ∧ 2 = [AV.junk, AV.junk].length ∧ n ++ [47] ++ d = showQ (valI n) (valI d).toNat)) := by
 have hb : bothE n d = 0 := by unfold bothE; rw [hn, hd]; rfl
 obtain ⟨n1, n2, n3⟩ := big_a hn
 obtain ⟨d1, d2, d3⟩ := big_a hd
 have n4 := big_b hn
 have d4 := big_b hd
 have eD : (valI d).natAbs = (valI d).toNat := by omega
 have hg : gcdN n d = Nat.gcd (valI n).natAbs (valI d).toNat := by unfold gcdN; rw [eD]
 obtain ⟨g1, g2, g3, g4, g5, g6⟩ := gcd_red (valI n) hp
 rw [← hg] at g1 g2 g3 g4 g5 g6
 have gl : gcdN n d ≤ (valI d).natAbs := by rw [hg, eD]; exact Nat.le_of_dvd (by omega) (Nat.gcd_dvd_right _ _)
 have gi : intE (Lib.itoa (gcdN n d : Int)) = 0 := by
  rw [intE_itoa']
  exact (res_small (n := (gcdN n d : Int)) (k := 300) (by omega) (by omega) (by rw [Int.natAbs_natCast]; omega)).2
 have lg := (big_a gi).2.1
 have hz : (Lib.itoa (gcdN n d : Int) == [48]) = false := beq_eq_false_iff_ne.2 fun e => by
  have := (itoa_intB (gcdN n d : Int)).2
  rw [e] at this
  have h0 : valI [48] = 0 := by decide
  rw [h0] at this
  omega
 have dv : ∀ x : Str, intE x = 0 → divQ x (Lib.itoa (gcdN n d : Int)) = Lib.itoa (valI x / (gcdN n d : Int)) := fun x hx => by
  have e : divE x (Lib.itoa (gcdN n d : Int)) = 0 := by
   unfold divE bothE
   rw [hx, gi, hz]; rfl
  rw [(div_eq e).1, (itoa_intB _).2, Int.fdiv_eq_ediv_of_nonneg _ (by omega)]
 have vd : valI d / (gcdN n d : Int) = (((valI d).toNat / gcdN n d : Nat) : Int) := by
  rw [Int.natCast_ediv]; congr 1; omega
 have qd := dv d hd
 rw [vd] at qd
 have ql : ∀ x : Int, x.natAbs < 10 ^ 300 → (Lib.itoa x).length ≤ 400 := fun x hx => by
  have := intE_itoa' x
  rw [(res_small (n := x) (k := 300) (by omega) (by omega) hx).2] at this
  have := (big_a this).2.1
  omega
 refine ⟨hb, by omega, by omega, by omega, bsplit_iff.2 ⟨fun c => ?_, fun c => ?_⟩⟩
 ·refine qn_end (by rw [dv n hn, hg]) (by rw [qd, hg]) ?_ ?_
  ·rw [dv n hn]; exact ql _ (by omega)
  ·rw [qd]; exact ql _ (by rw [Int.natAbs_natCast]; omega)
 ·rw [Bool.not_eq_false', one_iff] at c
  have c1 := Nat.eq_of_beq_eq_true c
  rw [hg] at c1
  refine qn_end ?_ ?_ (by omega) (by omega)
  ·rw [c1]
   show n = Lib.itoa (valI n / 1)
   rw [Int.ediv_one, itoa_valI n3]
  ·rw [c1, Nat.div_one, show (((valI d).toNat : Nat) : Int) = valI d by omega, itoa_valI d3]
def qnum_t : List AV → Option (List Cond × AV)
 | [.str n, .str d] => some ([.p (intE n = 0), .p (intE d = 0), .p (valI d ≠ 0)], .tup 2 (listFn [.str (sgQ (valI n) (valI d)), .i 0]))
 | _ => none
theorem qnum_vc (G : List (Nat × Obj)) (n : List UInt8) (d : List UInt8) (hn : intE n = 0) (hd : intE d = 0) (hp : valI d ≠ 0) :
 let q1 := (True ∧ Array.toList (ByteArray.data (ByteArray.mk #[])) = sgQ (valI n) (valI d)); let q2 := (bif bothE (oppS n) (oppS d) != iZ then [] else Lib.itoa (↑(gcdN (oppS n) (oppS d)) : Int)); let q3 := (ByteArray.data (ByteArray.mk #[(49 : UInt8)])); let q4 := (ByteArray.data (ByteArray.mk #[(47 : UInt8)])); let q5 := (bif bothE n d != iZ then [] else Lib.itoa (↑(gcdN n d) : Int)); bndL [AV.str n, AV.str d] → bsplit (minB d) (lN n ≤ 4294967280 ∧ lN d ≤ 4294967280 ∧ lN (oppS n) ≤ 4294967280 ∧ lN (oppS d) ≤ 4294967280 ∧ bsplit (bothE (oppS n)
 (oppS d) != iZ) (j2 ∧ q1 ∧ kI ∧ bothE (oppS n) (oppS d) = iZ) (bsplit (!q2 == Array.toList q3) (lN (oppS n) ≤ 4294967280 ∧ lN q2 ≤ 4294967280 ∧ lN (oppS d) ≤ 4294967280 ∧ lN q2 ≤ 4294967280 ∧ bsplit (divQ (oppS d) q2 == Array.toList q3) (j2 ∧ (True ∧ divQ (oppS n) q2 = sgQ (valI n) (valI d)) ∧ kI ∧ iZ = iZ) (bsplit (DB.db (lN (divQ (oppS n) q2) + 1 ≤ 9223372036854775807)) (bsplit (DB.db (lN (divQ (oppS n) q2 ++
 Array.toList q4) + lN (divQ (oppS d) q2) ≤ 9223372036854775807)) (j2 ∧ (True ∧ divQ (oppS n) q2 ++ Array.toList q4 ++ divQ (oppS d) q2 = sgQ (valI n) (valI d)) ∧ kI ∧ iZ = iZ) False) False)) (bsplit (oppS d == Array.toList q3) (j2 ∧ (True ∧ oppS n = sgQ (valI n) (valI d)) ∧ kI ∧ iZ = iZ) (bsplit (DB.db (lN (oppS n) + 1 ≤ 9223372036854775807)) (bsplit (DB.db (lN (oppS n ++ Array.toList q4) + lN (oppS d) ≤ 9223372036854775807)) (2 =
 lN [AV.junk, AV.junk] ∧ (True ∧ oppS n ++ Array.toList q4 ++ oppS d = sgQ (valI n) (valI d)) ∧ kI ∧ iZ = iZ) False) False)))) (lN n ≤ 4294967280 ∧ lN d ≤ 4294967280 ∧ bsplit (bothE n d != iZ) (j2 ∧ q1 ∧ kI ∧ bothE n d = iZ) (bsplit (!q5 == Array.toList q3) (lN n ≤ 4294967280 ∧ lN q5 ≤ 4294967280 ∧ lN d ≤ 4294967280 ∧ lN q5 ≤ 4294967280 ∧ bsplit (divQ d q5 == Array.toList q3) (j2 ∧ (True ∧ divQ n q5 = sgQ (valI
 n) (valI d)) ∧ kI ∧ iZ = iZ) (bsplit (DB.db (lN (divQ n q5) + 1 ≤ 9223372036854775807)) (bsplit (DB.db (lN (divQ n q5 ++ Array.toList q4) + lN (divQ d q5) ≤ 9223372036854775807)) (j2 ∧ (True ∧ divQ n q5 ++ Array.toList q4 ++ divQ d q5 = sgQ (valI n) (valI d)) ∧ kI ∧ iZ = iZ) False) False)) (bsplit (d == Array.toList q3) (j2 ∧ (True ∧ n = sgQ (valI n) (valI d)) ∧ kI ∧ iZ = iZ) (bsplit (DB.db (lN n + 1 ≤
 9223372036854775807)) (bsplit (DB.db (lN (n ++ Array.toList q4) + lN d ≤ 9223372036854775807)) (j2 ∧ (True ∧ n ++ Array.toList q4 ++ d = sgQ (valI n) (valI d)) ∧ kI ∧ iZ = iZ) False) False)))) := by
 delta kI j2 lN iZ
 dsimp only
 intro hb
 simp only [sS, dS]
 have key : ∀ n d : Str, intE n = 0 → intE d = 0 → 0 < valI d → _ := fun n d h1 h2 h3 => qn_all h1 h2 h3
 refine bsplit_iff.2 ⟨fun c => ?_, fun c => ?_⟩
 ·obtain ⟨o1, o2, o3⟩ := oppS_int hn
  obtain ⟨p1, p2, p3⟩ := oppS_int hd
  have hneg : valI d < 0 := by
   match d, c with
   | x :: r, c =>
    have hx : x = 45 := eq_of_beq c
    subst hx
    have : valI (45 :: r) = -(decV r : Int) := rfl
    omega
  have hs : sgQ (valI n) (valI d) = showQ (valI (oppS n)) (valI (oppS d)).toNat := by unfold sgQ; rw [(ltB_iff _ _).2 hneg, o2, p2]; rfl
  obtain ⟨k1, k2, k3, k4, k5⟩ := key (oppS n) (oppS d) o1 p1 (by omega)
  obtain ⟨_, n2, _⟩ := big_a hn
  obtain ⟨_, d2, _⟩ := big_a hd
  rw [k1, hs]
  refine ⟨by omega, by omega, by omega, by omega, fun h => absurd rfl h, fun _ => ?_⟩
  refine bsplit_iff.2 ⟨fun c => ⟨by omega, Nat.le_trans k2 (by decide), by omega, Nat.le_trans k2 (by decide), ?_⟩, fun c => ?_⟩
  ·exact (bsplit_iff.1 k5).1 c
  ·exact (bsplit_iff.1 k5).2 c
 ·have hpos : 0 < valI d := by
   obtain ⟨d1, _⟩ := intE_zero.1 hd
   rcases intB_cases d1 with ⟨r, rfl, _⟩ | ⟨g1, g3⟩
   ·cases c
   ·omega
  have hs : sgQ (valI n) (valI d) = showQ (valI n) (valI d).toNat := by unfold sgQ; rw [show ltB (valI d) 0 = false from Bool.eq_false_iff.2 fun e => by have := (ltB_iff _ _).1 e; omega]; rfl
  obtain ⟨k1, k2, k3, k4, k5⟩ := key n d hn hd hpos
  rw [k1, hs]
  refine ⟨by omega, by omega, fun h => absurd rfl h, fun _ => ?_⟩
  refine bsplit_iff.2 ⟨fun c => ⟨by omega, Nat.le_trans k2 (by decide), by omega, Nat.le_trans k2 (by decide), ?_⟩, fun c => ?_⟩
  ·exact (bsplit_iff.1 k5).1 c
  ·exact (bsplit_iff.1 k5).2 c
theorem qnum_C {G : List (Nat × Obj)} (hG : TabIn G) (n : List UInt8) (d : List UInt8) (hn : intE n = 0) (hd : intE d = 0) (hp : valI d ≠ 0) : PureCall Tryz.prog G 129 [.str n, .str d] (.tup 2 (listFn [.str (sgQ (valI n) (valI d)), .i 0])) :=
 pure_of_vc (T := ((((tb0 G).plus 189 (dash_t fun s => .b (minB s))).plus 191 iGcd_t).plus 192 iDiv_t).plus 190 qopp_t) (an := .auto) mixed (TbSound.plus (TbSound.plus (TbSound.plus (TbSound.plus tb0_sound (PureT.mono hasP_T)) (iGcd_T hG)) (iDiv_T hG)) (PureT.mono qopp_T)) (Eq.mp (by kernel_rfl) (qnum_vc G n d hn hd hp))
theorem qnum_T {G : List (Nat × Obj)} (hG : TabIn G) : PureT Tryz.prog G 129 qnum_t := by
 intro xs ps r h hp
 unfold qnum_t at h
 split at h
 ·skip
  rename_i n d
  cases h
  obtain ⟨q0, q1, q2, -⟩ := allC hp
  exact weaken (ys := [.str n, .str d]) ⟨avM_refl _, avM_refl _, trivial⟩ (qnum_C hG n d q0 q1 q2)
 ·cases h
end Go.Te

namespace Go.Te
open Go Go.Sx Go.Proofs Go.Ar
set_option maxRecDepth 100000
set_option maxHeartbeats 4000000
structure Pt where
 n : Str
 d : Str
instance : Enc Pt := ⟨2, ⟨[], []⟩, fun c => listFn [.str c.n, .str c.d], fun cs => ⟨AV.bytes (cs 0), AV.bytes (cs 1)⟩, fun cs => isStr (cs 0) && isStr (cs 1), fun cs h j hj => by
 simp only [Bool.and_eq_true] at h
 match j, hj with
 | 0, _ => exact avM_of_eq (isStr_eq h.1)
 | 1, _ => exact avM_of_eq (isStr_eq h.2)⟩
instance : LawEnc Pt := ⟨fun _ => rfl, fun _ => rfl⟩
def isFn (k : Nat) : AV → Bool
 | .fn (.func k') 0 _ 0 _ => Nat.beq k' k
 | _ => false
theorem isFn_avM {k : Nat} {x : AV} (h : isFn k x = true) : avM x (fn0 k) := by
 unfold isFn at h
 split at h
 ·obtain rfl := Nat.eq_of_beq_eq_true h
  exact ⟨rfl, rfl, rfl, allB_zero, allB_zero⟩
 ·cases h
def smN (x : Nt) : Prop := (-99999999 ≤ x.n ∧ x.n ≤ 99999999) ∧ (0 < x.d ∧ x.d ≤ 99999999)
theorem mul_sm {a b : Int} (ha : -99999999 ≤ a ∧ a ≤ 99999999) (hb : -99999999 ≤ b ∧ b ≤ 99999999) : -10000000000000000 ≤ a * b ∧ a * b ≤ 10000000000000000 := by
 have h : (a * b).natAbs ≤ 99999999 * 99999999 := by rw [Int.natAbs_mul]; exact Nat.mul_le_mul (by omega) (by omega)
 omega
def qa1_t : List AV → Option (List Cond × AV)
 | [.agg 2 p_x, .agg 2 p_y] => some ([.b (isI64 (p_x 0) && isI64 (p_x 1)), .b (isI64 (p_y 0) && isI64 (p_y 1)), .p (smN (⟨AV.int (p_x 0), AV.int (p_x 1)⟩ : Nt)), .p (smN (⟨AV.int (p_y 0), AV.int (p_y 1)⟩ : Nt))], agE (⟨(⟨AV.int (p_x 0), AV.int (p_x 1)⟩ : Nt).n * (⟨AV.int (p_y 0), AV.int (p_y 1)⟩ : Nt).d + (⟨AV.int (p_y 0), AV.int (p_y 1)⟩ : Nt).n * (⟨AV.int (p_x 0), AV.int (p_x 1)⟩ : Nt).d, (⟨AV.int (p_x 0), AV.int (p_x 1)⟩ : Nt).d * (⟨AV.int (p_y 0), AV.int (p_y 1)⟩ : Nt).d⟩ : Nt))
 | _ => none
theorem qa1_vc (x : Nt) (y : Nt) (h1 : smN x) (h2 : smN y) :
 bndL [AV.agg 2 (Enc.enc x), AV.agg 2 (Enc.enc y)] → bsplit (DB.db (inK .i64 (Nt.n x * Nt.d y))) (bsplit (DB.db (inK .i64 (Nt.n y * Nt.d x))) (bsplit (DB.db (inK .i64 (Nt.n x * Nt.d y + Nt.n y * Nt.d x))) (bsplit (DB.db (inK .i64 (Nt.d x * Nt.d y))) (2 = 2 ∧ (kI ∧ Nt.n x * Nt.d y + Nt.n y * Nt.d x = Nt.n (Nt.mk (Nt.n x * Nt.d y + Nt.n y * Nt.d x) (Nt.d x * Nt.d y))) ∧ kI ∧ Nt.d x * Nt.d y = Nt.d (Nt.mk (Nt.n x * Nt.d y + Nt.n y * Nt.d x) (Nt.d x * Nt.d y))) False) False) False) False := by
 delta kI
 intro hb
 simp only [sS, dS]
 unfold smN at h1 h2
 have m1 := mul_sm (a := x.n) (b := y.d) h1.1 ⟨by omega, h2.2.2⟩
 have m2 := mul_sm (a := y.n) (b := x.d) h2.1 ⟨by omega, h1.2.2⟩
 have m3 := mul_sm (a := x.d) (b := y.d) ⟨by omega, h1.2.2⟩ ⟨by omega, h2.2.2⟩
 exact ⟨⟨by omega, by omega⟩, ⟨by omega, by omega⟩, ⟨by omega, by omega⟩, ⟨by omega, by omega⟩⟩
theorem qa1_C (x : Nt) (y : Nt) (h1 : smN x) (h2 : smN y) : PureCall Tryz.prog [] 97 [agE x, agE y] (agE (⟨x.n * y.d + y.n * x.d, x.d * y.d⟩ : Nt)) :=
 pure_of_vc (T := T0) (an := .auto) mixed tb0_sound (Eq.mp (by kernel_rfl) (qa1_vc x y h1 h2))
theorem qa1_T : PureT Tryz.prog [] 97 qa1_t := by
 intro xs ps r h hp
 unfold qa1_t at h
 split at h
 ·skip
  rename_i p_x p_y
  cases h
  obtain ⟨q0, q1, q2, q3, -⟩ := allC hp
  exact weaken (ys := [agE (⟨AV.int (p_x 0), AV.int (p_x 1)⟩ : Nt), agE (⟨AV.int (p_y 0), AV.int (p_y 1)⟩ : Nt)]) ⟨agE_sound (x := .agg 2 p_x) (α := Nt) q0, agE_sound (x := .agg 2 p_y) (α := Nt) q1, trivial⟩ (qa1_C (⟨AV.int (p_x 0), AV.int (p_x 1)⟩ : Nt) (⟨AV.int (p_y 0), AV.int (p_y 1)⟩ : Nt) q2 q3)
 ·cases h
def qs1_t : List AV → Option (List Cond × AV)
 | [.agg 2 p_x, .agg 2 p_y] => some ([.b (isI64 (p_x 0) && isI64 (p_x 1)), .b (isI64 (p_y 0) && isI64 (p_y 1)), .p (smN (⟨AV.int (p_x 0), AV.int (p_x 1)⟩ : Nt)), .p (smN (⟨AV.int (p_y 0), AV.int (p_y 1)⟩ : Nt))], agE (⟨(⟨AV.int (p_x 0), AV.int (p_x 1)⟩ : Nt).n * (⟨AV.int (p_y 0), AV.int (p_y 1)⟩ : Nt).d - (⟨AV.int (p_y 0), AV.int (p_y 1)⟩ : Nt).n * (⟨AV.int (p_x 0), AV.int (p_x 1)⟩ : Nt).d, (⟨AV.int (p_x 0), AV.int (p_x 1)⟩ : Nt).d * (⟨AV.int (p_y 0), AV.int (p_y 1)⟩ : Nt).d⟩ : Nt))
 | _ => none
theorem qs1_vc (x : Nt) (y : Nt) (h1 : smN x) (h2 : smN y) :
 bndL [AV.agg 2 (Enc.enc x), AV.agg 2 (Enc.enc y)] → bsplit (DB.db (inK .i64 (Nt.n x * Nt.d y))) (bsplit (DB.db (inK .i64 (Nt.n y * Nt.d x))) (bsplit (DB.db (inK .i64 (Nt.n x * Nt.d y - Nt.n y * Nt.d x))) (bsplit (DB.db (inK .i64 (Nt.d x * Nt.d y))) (2 = 2 ∧ (kI ∧ Nt.n x * Nt.d y - Nt.n y * Nt.d x = Nt.n (Nt.mk (Nt.n x * Nt.d y - Nt.n y * Nt.d x) (Nt.d x * Nt.d y))) ∧ kI ∧ Nt.d x * Nt.d y = Nt.d (Nt.mk (Nt.n x * Nt.d y - Nt.n y * Nt.d x) (Nt.d x * Nt.d y))) False) False) False) False := by
 delta kI
 intro hb
 simp only [sS, dS]
 unfold smN at h1 h2
 have m1 := mul_sm (a := x.n) (b := y.d) h1.1 ⟨by omega, h2.2.2⟩
 have m2 := mul_sm (a := y.n) (b := x.d) h2.1 ⟨by omega, h1.2.2⟩
 have m3 := mul_sm (a := x.d) (b := y.d) ⟨by omega, h1.2.2⟩ ⟨by omega, h2.2.2⟩
 exact ⟨⟨by omega, by omega⟩, ⟨by omega, by omega⟩, ⟨by omega, by omega⟩, ⟨by omega, by omega⟩⟩
theorem qs1_C (x : Nt) (y : Nt) (h1 : smN x) (h2 : smN y) : PureCall Tryz.prog [] 141 [agE x, agE y] (agE (⟨x.n * y.d - y.n * x.d, x.d * y.d⟩ : Nt)) :=
 pure_of_vc (T := T0) (an := .auto) mixed tb0_sound (Eq.mp (by kernel_rfl) (qs1_vc x y h1 h2))
theorem qs1_T : PureT Tryz.prog [] 141 qs1_t := by
 intro xs ps r h hp
 unfold qs1_t at h
 split at h
 ·skip
  rename_i p_x p_y
  cases h
  obtain ⟨q0, q1, q2, q3, -⟩ := allC hp
  exact weaken (ys := [agE (⟨AV.int (p_x 0), AV.int (p_x 1)⟩ : Nt), agE (⟨AV.int (p_y 0), AV.int (p_y 1)⟩ : Nt)]) ⟨agE_sound (x := .agg 2 p_x) (α := Nt) q0, agE_sound (x := .agg 2 p_y) (α := Nt) q1, trivial⟩ (qs1_C (⟨AV.int (p_x 0), AV.int (p_x 1)⟩ : Nt) (⟨AV.int (p_y 0), AV.int (p_y 1)⟩ : Nt) q2 q3)
 ·cases h
def qm1_t : List AV → Option (List Cond × AV)
 | [.agg 2 p_x, .agg 2 p_y] => some ([.b (isI64 (p_x 0) && isI64 (p_x 1)), .b (isI64 (p_y 0) && isI64 (p_y 1)), .p (smN (⟨AV.int (p_x 0), AV.int (p_x 1)⟩ : Nt)), .p (smN (⟨AV.int (p_y 0), AV.int (p_y 1)⟩ : Nt))], agE (⟨(⟨AV.int (p_x 0), AV.int (p_x 1)⟩ : Nt).n * (⟨AV.int (p_y 0), AV.int (p_y 1)⟩ : Nt).n, (⟨AV.int (p_x 0), AV.int (p_x 1)⟩ : Nt).d * (⟨AV.int (p_y 0), AV.int (p_y 1)⟩ : Nt).d⟩ : Nt))
 | _ => none
theorem qm1_vc (x : Nt) (y : Nt) (h1 : smN x) (h2 : smN y) :
 bndL [AV.agg 2 (Enc.enc x), AV.agg 2 (Enc.enc y)] → bsplit (DB.db (inK .i64 (Nt.n x * Nt.n y))) (bsplit (DB.db (inK .i64 (Nt.d x * Nt.d y))) (2 = 2 ∧ (kI ∧ Nt.n x * Nt.n y = Nt.n (Nt.mk (Nt.n x * Nt.n y) (Nt.d x * Nt.d y))) ∧ kI ∧ Nt.d x * Nt.d y = Nt.d (Nt.mk (Nt.n x * Nt.n y) (Nt.d x * Nt.d y))) False) False := by
 delta kI
 intro hb
 simp only [sS, dS]
 unfold smN at h1 h2
 have m1 := mul_sm (a := x.n) (b := y.n) h1.1 ⟨by omega, h2.1.2⟩
 have m2 := mul_sm (a := y.n) (b := x.d) h2.1 ⟨by omega, h1.2.2⟩
 have m3 := mul_sm (a := x.d) (b := y.d) ⟨by omega, h1.2.2⟩ ⟨by omega, h2.2.2⟩
 exact ⟨⟨by omega, by omega⟩, ⟨by omega, by omega⟩⟩
theorem qm1_C (x : Nt) (y : Nt) (h1 : smN x) (h2 : smN y) : PureCall Tryz.prog [] 187 [agE x, agE y] (agE (⟨x.n * y.n, x.d * y.d⟩ : Nt)) :=
 pure_of_vc (T := T0) (an := .auto) mixed tb0_sound (Eq.mp (by kernel_rfl) (qm1_vc x y h1 h2))
theorem qm1_T : PureT Tryz.prog [] 187 qm1_t := by
 intro xs ps r h hp
 unfold qm1_t at h
 split at h
 ·skip
  rename_i p_x p_y
  cases h
  obtain ⟨q0, q1, q2, q3, -⟩ := allC hp
  exact weaken (ys := [agE (⟨AV.int (p_x 0), AV.int (p_x 1)⟩ : Nt), agE (⟨AV.int (p_y 0), AV.int (p_y 1)⟩ : Nt)]) ⟨agE_sound (x := .agg 2 p_x) (α := Nt) q0, agE_sound (x := .agg 2 p_y) (α := Nt) q1, trivial⟩ (qm1_C (⟨AV.int (p_x 0), AV.int (p_x 1)⟩ : Nt) (⟨AV.int (p_y 0), AV.int (p_y 1)⟩ : Nt) q2 q3)
 ·cases h
def cmE (f : Int → Int → Int) (x y : Pt) : Int :=
 bif resE (valI x.n * valI y.d) != 0 then resE (valI x.n * valI y.d) else bif resE (valI y.n * valI x.d) != 0 then resE (valI y.n * valI x.d)
 else bif resE (f (valI x.n * valI y.d) (valI y.n * valI x.d)) != 0 then resE (f (valI x.n * valI y.d) (valI y.n * valI x.d)) else resE (valI x.d * valI y.d)
def cmS (f : Int → Int → Int) (x y : Pt) : Str := bif cmE f x y == 0 then sgQ (f (valI x.n * valI y.d) (valI y.n * valI x.d)) (valI x.d * valI y.d) else []
def okP (x : Pt) : Prop := intE x.n = 0 ∧ intE x.d = 0 ∧ valI x.d ≠ 0
theorem op_res {f : Int → Int → Int} {a b : Str} (ha : intE a = 0) (hb : intE b = 0) : opE f a b = resE (f (valI a) (valI b)) ∧ opS f a b = resS (f (valI a) (valI b)) := by
 have hE : bothE a b = 0 := by unfold bothE; rw [ha, hb]; rfl
 obtain ⟨e1, e2⟩ := op_eq (f := f) hE
 exact ⟨e2, e1⟩
theorem res_ok {n : Int} (h : resE n = 0) : intE (resS n) = 0 ∧ valI (resS n) = n ∧ (resS n).length ≤ 400 := by
 have e : resS n = Lib.itoa n := by unfold resS; rw [h]; rfl
 have hi : intE (Lib.itoa n) = 0 := by rw [intE_itoa', h]
 rw [e]
 exact ⟨hi, (itoa_intB n).2, by have := (big_a hi).2.1; omega⟩
theorem cm_all {f : Int → Int → Int} {x y : Pt} (h1 : okP x) (h2 : okP y) :
 x.n.length ≤ 4294967280 ∧ y.d.length ≤ 4294967280 ∧
  (opE (fun x1 x2 => x1 * x2) x.n y.d ≠ 0 →
   (opE (fun x1 x2 => x1 * x2) x.n y.d ≠ 0 → 2 = [AV.junk, AV.junk].length ∧ [] = cmS f x y ∧ opE (fun x1 x2 => x1 * x2) x.n y.d = cmE f x y) ∧
   (opE (fun x1 x2 => x1 * x2) x.n y.d = 0 → 2 = [AV.junk, AV.junk].length ∧ [] = cmS f x y ∧ opE f [] [] = cmE f x y)) ∧
  (opE (fun x1 x2 => x1 * x2) x.n y.d = 0 → y.n.length ≤ 4294967280 ∧ x.d.length ≤ 4294967280 ∧
   (opE (fun x1 x2 => x1 * x2) y.n x.d ≠ 0 → 2 = [AV.junk, AV.junk].length ∧ [] = cmS f x y ∧ opE (fun x1 x2 => x1 * x2) y.n x.d = cmE f x y) ∧
   (opE (fun x1 x2 => x1 * x2) y.n x.d = 0 → (opS (fun x1 x2 => x1 * x2) x.n y.d).length ≤ 4294967280 ∧ (opS (fun x1 x2 => x1 * x2) y.n x.d).length ≤ 4294967280 ∧
    (opE f (opS (fun x1 x2 => x1 * x2) x.n y.d) (opS (fun x1 x2 => x1 * x2) y.n x.d) ≠ 0 → 2 = [AV.junk, AV.junk].length ∧ [] = cmS f x y ∧ opE f (opS (fun x1 x2 => x1 * x2) x.n y.d) (opS (fun x1 x2 => x1 * x2) y.n x.d) = cmE f x y) ∧
    (opE f (opS (fun x1 x2 => x1 * x2) x.n y.d) (opS (fun x1 x2 => x1 * x2) y.n x.d) = 0 → x.d.length ≤ 4294967280 ∧ y.d.length ≤ 4294967280 ∧
     (opE (fun x1 x2 => x1 * x2) x.d y.d ≠ 0 → 2 = [AV.junk, AV.junk].length ∧ [] = cmS f x y ∧ opE (fun x1 x2 => x1 * x2) x.d y.d = cmE f x y) ∧
     (opE (fun x1 x2 => x1 * x2) x.d y.d = 0 → intE (opS f (opS (fun x1 x2 => x1 * x2) x.n y.d) (opS (fun x1 x2 => x1 * x2) y.n x.d)) = 0 ∧ intE (opS (fun x1 x2 => x1 * x2) x.d y.d) = 0 ∧ valI (opS (fun x1 x2 => x1 * x2) x.d y.d) ≠ 0 ∧
      2 = [AV.junk, AV.junk].length ∧ sgQ (valI (opS f (opS (fun x1 x2 => x1 * x2) x.n y.d) (opS (fun x1 x2 => x1 * x2) y.n x.d))) (valI (opS (fun x1 x2 => x1 * x2) x.d y.d)) = cmS f x y ∧ 0 = cmE f x y)))) := by
 obtain ⟨a1, a2, a3⟩ := h1
 obtain ⟨b1, b2, b3⟩ := h2
 have l1 := (big_a a1).2.1
 have l2 := (big_a a2).2.1
 have l3 := (big_a b1).2.1
 have l4 := (big_a b2).2.1
 obtain ⟨p1, p2⟩ := op_res (f := fun x1 x2 => x1 * x2) a1 b2
 obtain ⟨p3, p4⟩ := op_res (f := fun x1 x2 => x1 * x2) b1 a2
 obtain ⟨p5, p6⟩ := op_res (f := fun x1 x2 => x1 * x2) a2 b2
 have bad : ∀ e : Int, e ≠ 0 → e = cmE f x y → 2 = [AV.junk, AV.junk].length ∧ [] = cmS f x y ∧ e = cmE f x y := fun e h0 h => ⟨rfl, by unfold cmS; rw [← h, beq_eq_false_iff_ne.2 h0]; rfl, h⟩
 rw [p1, p2, p3, p4, p5, p6]
 refine ⟨by omega, by omega, fun h => ⟨fun _ => bad _ h ?_, fun h0 => absurd h0 h⟩, fun g1 => ⟨by omega, by omega, fun h => bad _ h ?_, fun g2 => ?_⟩⟩
 ·unfold cmE; rw [bne_iff_ne.2 h]; rfl
 ·unfold cmE; rw [g1, bne_iff_ne.2 h]; rfl
 obtain ⟨r1, r2, r3⟩ := res_ok g1
 obtain ⟨r4, r5, r6⟩ := res_ok g2
 obtain ⟨p7, p8⟩ := op_res (f := f) r1 r4
 rw [r2, r5] at p7 p8
 rw [p7, p8]
 refine ⟨by omega, by omega, fun h => bad _ h ?_, fun g3 => ⟨by omega, by omega, fun h => bad _ h ?_, fun g4 => ?_⟩⟩
 ·unfold cmE; rw [g1, g2, bne_iff_ne.2 h]; rfl
 ·unfold cmE; rw [g1, g2, g3]; rfl
 obtain ⟨s1, s2, s3⟩ := res_ok g3
 obtain ⟨s4, s5, s6⟩ := res_ok g4
 have e : cmE f x y = 0 := by unfold cmE; rw [g1, g2, g3, g4]; rfl
 rw [s2, s5]
 exact ⟨s1, s4, Int.mul_ne_zero a3 b3, rfl, by unfold cmS; rw [e]; rfl, e.symm⟩
noncomputable def Tcb (G : List (Nat × Obj)) : Tb := (((((tb0 G).plus 145 iMul_t).plus 100 iAdd_t).plus 142 iSub_t).plus 129 qnum_t).body Tryz.prog [(133, .auto)]
theorem Tcb_sound {G : List (Nat × Obj)} (hG : TabIn G) : TbSound Tryz.prog (Tcb G) := TbSound.body mixed (TbSound.plus (TbSound.plus (TbSound.plus (TbSound.plus tb0_sound (iMul_T hG)) (iAdd_T hG)) (iSub_T hG)) (qnum_T hG)) _
def qcA_t : List AV → Option (List Cond × AV)
 | [.agg 2 p_x, .agg 2 p_y, .xq 1 c_cf 0] => some ([.b (isStr (p_x 0) && isStr (p_x 1)), .b (isStr (p_y 0) && isStr (p_y 1)), .b (isFn 100 (c_cf 0)), .p (okP (⟨AV.bytes (p_x 0), AV.bytes (p_x 1)⟩ : Pt)), .p (okP (⟨AV.bytes (p_y 0), AV.bytes (p_y 1)⟩ : Pt))], .tup 2 (listFn [.str (cmS (· + ·) (⟨AV.bytes (p_x 0), AV.bytes (p_x 1)⟩ : Pt) (⟨AV.bytes (p_y 0), AV.bytes (p_y 1)⟩ : Pt)), .i (cmE (· + ·) (⟨AV.bytes (p_x 0), AV.bytes (p_x 1)⟩ : Pt) (⟨AV.bytes (p_y 0), AV.bytes (p_y 1)⟩ : Pt))]))
 | _ => none
theorem qcA_vc (G : List (Nat × Obj)) (x : Pt) (y : Pt) (h1 : okP x) (h2 : okP y) :
 let q1 := (opE (fun (x1 x2 : Int) => x1 * x2) (Pt.n x) (Pt.d y) != iZ); let q2 := (True ∧ Array.toList (ByteArray.data (ByteArray.mk #[])) = cmS (fun (x1 x2 : Int) => x1 + x2) x y); let q3 := (Array.toList (ByteArray.data (ByteArray.mk #[]))); let q4 := (opS (fun (x1 x2 : Int) => x1 * x2) (Pt.n x) (Pt.d y)); let q5 := (opS (fun (x1 x2 : Int) => x1 * x2) (Pt.n y) (Pt.d x)); let q6 := (opS (fun (x1 x2 : Int) => x1 + x2) q4 q5); let q7 := (opS (fun (x1 x2 : Int) => x1 * x2) (Pt.d x) (Pt.d y)); bndL [AV.agg 2 (Enc.enc x), AV.agg 2 (Enc.enc y), AV.xq 1 (fun (x : Nat) => AV.fn (Fn.func (100 :
 FuncId)) 0 (fun (x : Nat) => AV.junk) 0 fun (x : Nat) => AV.junk) 0] → lN (Pt.n x) ≤ 4294967280 ∧ lN (Pt.d y) ≤ 4294967280 ∧ bsplit q1 (bsplit q1 (j2 ∧ q2 ∧ kI ∧ opE (fun (x1 x2 : Int) => x1 * x2) (Pt.n x) (Pt.d y) = cmE (fun (x1 x2 : Int) => x1 + x2) x y) (0 ≤ 4294967280 ∧ 0 ≤ 4294967280 ∧ j2 ∧ q2 ∧ kI ∧ opE (fun (x1 x2 : Int) => x1 + x2) q3 q3 = cmE (fun (x1 x2 : Int) => x1 + x2) x y)) (lN (Pt.n y) ≤ 4294967280 ∧ lN (Pt.d x) ≤ 4294967280 ∧ bsplit (opE (fun (x1 x2
 : Int) => x1 * x2) (Pt.n y) (Pt.d x) != iZ) (j2 ∧ q2 ∧ kI ∧ opE (fun (x1 x2 : Int) => x1 * x2) (Pt.n y) (Pt.d x) = cmE (fun (x1 x2 : Int) => x1 + x2) x y) (lN q4 ≤ 4294967280 ∧ lN q5 ≤ 4294967280 ∧ bsplit (opE (fun (x1 x2 : Int) => x1 + x2) q4 q5 != iZ) (j2 ∧ q2 ∧ kI ∧ opE (fun (x1 x2 : Int) => x1 + x2) q4 q5 = cmE (fun (x1 x2 : Int) => x1 + x2) x y) (lN (Pt.d x) ≤ 4294967280 ∧ lN (Pt.d y) ≤ 4294967280 ∧ bsplit (opE (fun (x1 x2 : Int) => x1 * x2)
 (Pt.d x) (Pt.d y) != iZ) (j2 ∧ q2 ∧ kI ∧ opE (fun (x1 x2 : Int) => x1 * x2) (Pt.d x) (Pt.d y) = cmE (fun (x1 x2 : Int) => x1 + x2) x y) (intE q6 = iZ ∧ intE q7 = iZ ∧ valI q7 ≠ iZ ∧ j2 ∧ (True ∧ sgQ (valI q6) (valI q7) = cmS (fun (x1 x2 : Int) => x1 + x2) x y) ∧ kI ∧ iZ = cmE (fun (x1 x2 : Int) => x1 + x2) x y)))) := by
 delta kI j2 lN iZ
 dsimp only
 intro hb
 simp only [sS, dS]
 exact cm_all h1 h2
theorem qcA_C {G : List (Nat × Obj)} (hG : TabIn G) (x : Pt) (y : Pt) (h1 : okP x) (h2 : okP y) : PureCall Tryz.prog G 144 [agE x, agE y, .xq 1 (fun _ => fn0 100) 0] (.tup 2 (listFn [.str (cmS (· + ·) x y), .i (cmE (· + ·) x y)])) :=
 pure_of_vc (T := Tcb G) (an := .auto) mixed (Tcb_sound hG) (Eq.mp (by kernel_rfl) (qcA_vc G x y h1 h2))
theorem qcA_T {G : List (Nat × Obj)} (hG : TabIn G) : PureT Tryz.prog G 144 qcA_t := by
 intro xs ps r h hp
 unfold qcA_t at h
 split at h
 ·skip
  rename_i p_x p_y c_cf
  cases h
  obtain ⟨q0, q1, q2, q3, q4, -⟩ := allC hp
  exact weaken (ys := [agE (⟨AV.bytes (p_x 0), AV.bytes (p_x 1)⟩ : Pt), agE (⟨AV.bytes (p_y 0), AV.bytes (p_y 1)⟩ : Pt), .xq 1 (fun _ => fn0 100) 0]) ⟨agE_sound (x := .agg 2 p_x) (α := Pt) q0, agE_sound (x := .agg 2 p_y) (α := Pt) q1, ⟨rfl, rfl, isFn_avM q2⟩, trivial⟩ (qcA_C hG (⟨AV.bytes (p_x 0), AV.bytes (p_x 1)⟩ : Pt) (⟨AV.bytes (p_y 0), AV.bytes (p_y 1)⟩ : Pt) q3 q4)
 ·cases h
def qcS_t : List AV → Option (List Cond × AV)
 | [.agg 2 p_x, .agg 2 p_y, .xq 1 c_cf 0] => some ([.b (isStr (p_x 0) && isStr (p_x 1)), .b (isStr (p_y 0) && isStr (p_y 1)), .b (isFn 142 (c_cf 0)), .p (okP (⟨AV.bytes (p_x 0), AV.bytes (p_x 1)⟩ : Pt)), .p (okP (⟨AV.bytes (p_y 0), AV.bytes (p_y 1)⟩ : Pt))], .tup 2 (listFn [.str (cmS (· - ·) (⟨AV.bytes (p_x 0), AV.bytes (p_x 1)⟩ : Pt) (⟨AV.bytes (p_y 0), AV.bytes (p_y 1)⟩ : Pt)), .i (cmE (· - ·) (⟨AV.bytes (p_x 0), AV.bytes (p_x 1)⟩ : Pt) (⟨AV.bytes (p_y 0), AV.bytes (p_y 1)⟩ : Pt))]))
 | _ => none
theorem qcS_vc (G : List (Nat × Obj)) (x : Pt) (y : Pt) (h1 : okP x) (h2 : okP y) :
 let q1 := (opE (fun (x1 x2 : Int) => x1 * x2) (Pt.n x) (Pt.d y) != iZ); let q2 := (True ∧ Array.toList (ByteArray.data (ByteArray.mk #[])) = cmS (fun (x1 x2 : Int) => x1 - x2) x y); let q3 := (Array.toList (ByteArray.data (ByteArray.mk #[]))); let q4 := (opS (fun (x1 x2 : Int) => x1 * x2) (Pt.n x) (Pt.d y)); let q5 := (opS (fun (x1 x2 : Int) => x1 * x2) (Pt.n y) (Pt.d x)); let q6 := (opS (fun (x1 x2 : Int) => x1 - x2) q4 q5); let q7 := (opS (fun (x1 x2 : Int) => x1 * x2) (Pt.d x) (Pt.d y)); bndL [AV.agg 2 (Enc.enc x), AV.agg 2 (Enc.enc y), AV.xq 1 (fun (x : Nat) => AV.fn (Fn.func (142 :
 FuncId)) 0 (fun (x : Nat) => AV.junk) 0 fun (x : Nat) => AV.junk) 0] → lN (Pt.n x) ≤ 4294967280 ∧ lN (Pt.d y) ≤ 4294967280 ∧ bsplit q1 (bsplit q1 (j2 ∧ q2 ∧ kI ∧ opE (fun (x1 x2 : Int) => x1 * x2) (Pt.n x) (Pt.d y) = cmE (fun (x1 x2 : Int) => x1 - x2) x y) (0 ≤ 4294967280 ∧ 0 ≤ 4294967280 ∧ j2 ∧ q2 ∧ kI ∧ opE (fun (x1 x2 : Int) => x1 - x2) q3 q3 = cmE (fun (x1 x2 : Int) => x1 - x2) x y)) (lN (Pt.n y) ≤ 4294967280 ∧ lN (Pt.d x) ≤ 4294967280 ∧ bsplit (opE (fun (x1 x2
 : Int) => x1 * x2) (Pt.n y) (Pt.d x) != iZ) (j2 ∧ q2 ∧ kI ∧ opE (fun (x1 x2 : Int) => x1 * x2) (Pt.n y) (Pt.d x) = cmE (fun (x1 x2 : Int) => x1 - x2) x y) (lN q4 ≤ 4294967280 ∧ lN q5 ≤ 4294967280 ∧ bsplit (opE (fun (x1 x2 : Int) => x1 - x2) q4 q5 != iZ) (j2 ∧ q2 ∧ kI ∧ opE (fun (x1 x2 : Int) => x1 - x2) q4 q5 = cmE (fun (x1 x2 : Int) => x1 - x2) x y) (lN (Pt.d x) ≤ 4294967280 ∧ lN (Pt.d y) ≤ 4294967280 ∧ bsplit (opE (fun (x1 x2 : Int) => x1 * x2)
 (Pt.d x) (Pt.d y) != iZ) (j2 ∧ q2 ∧ kI ∧ opE (fun (x1 x2 : Int) => x1 * x2) (Pt.d x) (Pt.d y) = cmE (fun (x1 x2 : Int) => x1 - x2) x y) (intE q6 = iZ ∧ intE q7 = iZ ∧ valI q7 ≠ iZ ∧ j2 ∧ (True ∧ sgQ (valI q6) (valI q7) = cmS (fun (x1 x2 : Int) => x1 - x2) x y) ∧ kI ∧ iZ = cmE (fun (x1 x2 : Int) => x1 - x2) x y)))) := by
 delta kI j2 lN iZ
 dsimp only
 intro hb
 simp only [sS, dS]
 exact cm_all h1 h2
theorem qcS_C {G : List (Nat × Obj)} (hG : TabIn G) (x : Pt) (y : Pt) (h1 : okP x) (h2 : okP y) : PureCall Tryz.prog G 144 [agE x, agE y, .xq 1 (fun _ => fn0 142) 0] (.tup 2 (listFn [.str (cmS (· - ·) x y), .i (cmE (· - ·) x y)])) :=
 pure_of_vc (T := Tcb G) (an := .auto) mixed (Tcb_sound hG) (Eq.mp (by kernel_rfl) (qcS_vc G x y h1 h2))
theorem qcS_T {G : List (Nat × Obj)} (hG : TabIn G) : PureT Tryz.prog G 144 qcS_t := by
 intro xs ps r h hp
 unfold qcS_t at h
 split at h
 ·skip
  rename_i p_x p_y c_cf
  cases h
  obtain ⟨q0, q1, q2, q3, q4, -⟩ := allC hp
  exact weaken (ys := [agE (⟨AV.bytes (p_x 0), AV.bytes (p_x 1)⟩ : Pt), agE (⟨AV.bytes (p_y 0), AV.bytes (p_y 1)⟩ : Pt), .xq 1 (fun _ => fn0 142) 0]) ⟨agE_sound (x := .agg 2 p_x) (α := Pt) q0, agE_sound (x := .agg 2 p_y) (α := Pt) q1, ⟨rfl, rfl, isFn_avM q2⟩, trivial⟩ (qcS_C hG (⟨AV.bytes (p_x 0), AV.bytes (p_x 1)⟩ : Pt) (⟨AV.bytes (p_y 0), AV.bytes (p_y 1)⟩ : Pt) q3 q4)
 ·cases h
def cuE (x y : Pt) : Int := bif resE (valI x.n * valI y.n) != 0 then resE (valI x.n * valI y.n) else resE (valI x.d * valI y.d)
def cuS (x y : Pt) : Str := bif cuE x y == 0 then sgQ (valI x.n * valI y.n) (valI x.d * valI y.d) else []
def qm2_t : List AV → Option (List Cond × AV)
 | [.agg 2 p_x, .agg 2 p_y] => some ([.b (isStr (p_x 0) && isStr (p_x 1)), .b (isStr (p_y 0) && isStr (p_y 1)), .p (okP (⟨AV.bytes (p_x 0), AV.bytes (p_x 1)⟩ : Pt)), .p (okP (⟨AV.bytes (p_y 0), AV.bytes (p_y 1)⟩ : Pt))], .tup 2 (listFn [.str (cuS (⟨AV.bytes (p_x 0), AV.bytes (p_x 1)⟩ : Pt) (⟨AV.bytes (p_y 0), AV.bytes (p_y 1)⟩ : Pt)), .i (cuE (⟨AV.bytes (p_x 0), AV.bytes (p_x 1)⟩ : Pt) (⟨AV.bytes (p_y 0), AV.bytes (p_y 1)⟩ : Pt))]))
 | _ => none
theorem qm2_vc (G : List (Nat × Obj)) (x : Pt) (y : Pt) (h1 : okP x) (h2 : okP y) :
 let q1 := (True ∧ Array.toList (ByteArray.data (ByteArray.mk #[])) = cuS x y); let q2 := (opS (fun (x1 x2 : Int) => x1 * x2) (Pt.n x) (Pt.n y)); let q3 := (opS (fun (x1 x2 : Int) => x1 * x2) (Pt.d x) (Pt.d y)); bndL [AV.agg 2 (Enc.enc x), AV.agg 2 (Enc.enc y)] → lN (Pt.n x) ≤ 4294967280 ∧ lN (Pt.n y) ≤ 4294967280 ∧ bsplit (opE (fun (x1 x2 : Int) => x1 * x2) (Pt.n x) (Pt.n y) != iZ) (j2 ∧ q1 ∧ kI ∧ opE (fun (x1 x2 : Int) => x1 * x2) (Pt.n x) (Pt.n y) = cuE x y) (lN (Pt.d x) ≤ 4294967280 ∧ lN (Pt.d y) ≤
 4294967280 ∧ bsplit (opE (fun (x1 x2 : Int) => x1 * x2) (Pt.d x) (Pt.d y) != iZ) (j2 ∧ q1 ∧ kI ∧ opE (fun (x1 x2 : Int) => x1 * x2) (Pt.d x) (Pt.d y) = cuE x y) (intE q2 = iZ ∧ intE q3 = iZ ∧ valI q3 ≠ iZ ∧ j2 ∧ (True ∧ sgQ (valI q2) (valI q3) = cuS x y) ∧ kI ∧ iZ = cuE x y)) := by
 delta kI j2 lN iZ
 dsimp only
 intro hb
 simp only [sS, dS]
 obtain ⟨a1, a2, a3⟩ := h1
 obtain ⟨b1, b2, b3⟩ := h2
 have l1 := (big_a a1).2.1
 have l2 := (big_a a2).2.1
 have l3 := (big_a b1).2.1
 have l4 := (big_a b2).2.1
 obtain ⟨p1, p2⟩ := op_res (f := fun x1 x2 => x1 * x2) a1 b1
 obtain ⟨p5, p6⟩ := op_res (f := fun x1 x2 => x1 * x2) a2 b2
 have bad : ∀ e : Int, e ≠ 0 → e = cuE x y → 2 = [AV.junk, AV.junk].length ∧ [] = cuS x y ∧ e = cuE x y := fun e h0 h => ⟨rfl, by unfold cuS; rw [← h, beq_eq_false_iff_ne.2 h0]; rfl, h⟩
 rw [p1, p2, p5, p6]
 refine ⟨by omega, by omega, fun h => bad _ h ?_, fun g1 => ⟨by omega, by omega, fun h => bad _ h ?_, fun g4 => ?_⟩⟩
 ·unfold cuE; rw [bne_iff_ne.2 h]; rfl
 ·unfold cuE; rw [g1]; rfl
 obtain ⟨s1, s2, s3⟩ := res_ok g1
 obtain ⟨s4, s5, s6⟩ := res_ok g4
 have e : cuE x y = 0 := by unfold cuE; rw [g1, g4]; rfl
 rw [s2, s5]
 exact ⟨s1, s4, Int.mul_ne_zero a3 b3, rfl, by unfold cuS; rw [e]; rfl, e.symm⟩
theorem qm2_C {G : List (Nat × Obj)} (hG : TabIn G) (x : Pt) (y : Pt) (h1 : okP x) (h2 : okP y) : PureCall Tryz.prog G 188 [agE x, agE y] (.tup 2 (listFn [.str (cuS x y), .i (cuE x y)])) :=
 pure_of_vc (T := ((tb0 G).plus 145 iMul_t).plus 129 qnum_t) (an := .auto) mixed (TbSound.plus (TbSound.plus tb0_sound (iMul_T hG)) (qnum_T hG)) (Eq.mp (by kernel_rfl) (qm2_vc G x y h1 h2))
theorem qm2_T {G : List (Nat × Obj)} (hG : TabIn G) : PureT Tryz.prog G 188 qm2_t := by
 intro xs ps r h hp
 unfold qm2_t at h
 split at h
 ·skip
  rename_i p_x p_y
  cases h
  obtain ⟨q0, q1, q2, q3, -⟩ := allC hp
  exact weaken (ys := [agE (⟨AV.bytes (p_x 0), AV.bytes (p_x 1)⟩ : Pt), agE (⟨AV.bytes (p_y 0), AV.bytes (p_y 1)⟩ : Pt)]) ⟨agE_sound (x := .agg 2 p_x) (α := Pt) q0, agE_sound (x := .agg 2 p_y) (α := Pt) q1, trivial⟩ (qm2_C hG (⟨AV.bytes (p_x 0), AV.bytes (p_x 1)⟩ : Pt) (⟨AV.bytes (p_y 0), AV.bytes (p_y 1)⟩ : Pt) q2 q3)
 ·cases h
end Go.Te

namespace Go.Te
open Go Go.Sx Go.Proofs Go.Ar
set_option maxRecDepth 100000
set_option maxHeartbeats 4000000
def frN (f : Int → Int → Int) (a b : Str) : Int := f (ratN a * (ratD b : Int)) (ratN b * (ratD a : Int))
def frE (f : Int → Int → Int) (a b : Str) : Int := bif rcE a b != 0 then rcE a b else bif resE (frN f a b) != 0 then resE (frN f a b) else resE ((ratD a : Int) * (ratD b : Int))
def frS (f : Int → Int → Int) (a b : Str) : Str := bif frE f a b == 0 then showQ (frN f a b) (ratD a * ratD b) else []
def muE (a b : Str) : Int := bif ratE a != 0 then ratE a else bif ratE b != 0 then ratE b else bif resE (ratN a * ratN b) != 0 then resE (ratN a * ratN b) else resE ((ratD a : Int) * (ratD b : Int))
def muS (a b : Str) : Str := bif muE a b == 0 then showQ (ratN a * ratN b) (ratD a * ratD b) else []
noncomputable def Tar (G : List (Nat × Obj)) : Tb := (((((((tb0 G).plus 132 rread_t).plus 130 rnat_t).plus 143 qnat_t).plus 97 qa1_t).plus 141 qs1_t).plus 187 qm1_t).plus 188 qm2_t
theorem Tar_sound {G : List (Nat × Obj)} (hG : TabIn G) : TbSound Tryz.prog (Tar G) :=
 TbSound.plus (TbSound.plus (TbSound.plus (TbSound.plus (TbSound.plus (TbSound.plus (TbSound.plus tb0_sound (rread_T hG)) (PureT.mono rnat_T)) (qnat_T hG)) (PureT.mono qa1_T)) (PureT.mono qs1_T)) (PureT.mono qm1_T)) (qm2_T hG)
def bdR : List (FuncId × Ann) := [(96, .auto), (98, .auto), (99, .auto)]
theorem rat_pt {a : Str} (h : ratE a = 0) : okP ⟨cutN a, denS a⟩ := by
 obtain ⟨a1, a2, a3, a4⟩ := vok h
 refine ⟨a1, a2, ?_⟩
 rw [a4]
 have := ratD_pos (ratE_zero.1 h).1
 omega
theorem fr_cm {f : Int → Int → Int} {a b : Str} (ha : ratE a = 0) (hb : ratE b = 0) : cmS f ⟨cutN a, denS a⟩ ⟨cutN b, denS b⟩ = frS f a b ∧ cmE f ⟨cutN a, denS a⟩ ⟨cutN b, denS b⟩ = frE f a b := by
 obtain ⟨_, _, a3, a4⟩ := vok ha
 obtain ⟨_, _, b3, b4⟩ := vok hb
 have pa := ratD_pos (ratE_zero.1 ha).1
 have pb := ratD_pos (ratE_zero.1 hb).1
 have e : cmE f ⟨cutN a, denS a⟩ ⟨cutN b, denS b⟩ = frE f a b := by
  unfold cmE frE rcE frN
  rw [a3, a4, b3, b4, ha, hb]
  simp only [bne_self_eq_false, cond_false]
  cases h1 : resE (ratN a * (ratD b : Int)) != 0 with
  | true => simp only [cond_true, h1]
  | false => simp only [cond_false]
 refine ⟨?_, e⟩
 unfold cmS frS
 rw [e]
 cases frE f a b == 0 with
 | false => rfl
 | true =>
  simp only [cond_true]
  rw [a3, a4, b3, b4]
  have hp : (0 : Int) < (ratD a : Int) * (ratD b : Int) := Int.mul_pos (by omega) (by omega)
  unfold sgQ frN
  rw [show ltB ((ratD a : Int) * (ratD b : Int)) 0 = false from Bool.eq_false_iff.2 fun e => by have := (ltB_iff _ _).1 e; omega, cond_false, ← Int.natCast_mul, Int.toNat_natCast]
theorem fr_sm {a : Str} (h : natB a = true) : smN ⟨ratN a, (ratD a : Int)⟩ := by
 obtain ⟨h1, h2, h3⟩ := nat_rat h
 have := ratD_pos (ratE_zero.1 h1).1
 exact ⟨⟨by simp only; omega, by simp only; omega⟩, by simp only; omega, by simp only; omega⟩
theorem fr_quick {f : Int → Int → Int} (hf : ∀ u v, (f u v).natAbs ≤ u.natAbs + v.natAbs) {a b : Str} (ha : natB a = true) (hb : natB b = true) :
  frE f a b = 0 ∧ frS f a b = sgQ (f (ratN a * (ratD b : Int)) (ratN b * (ratD a : Int))) ((ratD a : Int) * (ratD b : Int)) ∧ (ratD a : Int) * (ratD b : Int) ≠ 0 ∧
  (-1000000000000000000 ≤ (ratD a : Int) * (ratD b : Int) ∧ (ratD a : Int) * (ratD b : Int) ≤ 1000000000000000000) ∧
  (-1000000000000000000 ≤ f (ratN a * (ratD b : Int)) (ratN b * (ratD a : Int)) ∧ f (ratN a * (ratD b : Int)) (ratN b * (ratD a : Int)) ≤ 1000000000000000000) := by
 obtain ⟨a1, a2, a3⟩ := nat_rat ha
 obtain ⟨b1, b2, b3⟩ := nat_rat hb
 have pa := ratD_pos (ratE_zero.1 a1).1
 have pb := ratD_pos (ratE_zero.1 b1).1
 have m1 := mul_sm (a := ratN a) (b := (ratD b : Int)) ⟨by omega, by omega⟩ ⟨by omega, by omega⟩
 have m2 := mul_sm (a := ratN b) (b := (ratD a : Int)) ⟨by omega, by omega⟩ ⟨by omega, by omega⟩
 have m3 := mul_sm (a := (ratD a : Int)) (b := (ratD b : Int)) ⟨by omega, by omega⟩ ⟨by omega, by omega⟩
 have hp : (0 : Int) < (ratD a : Int) * (ratD b : Int) := Int.mul_pos (by omega) (by omega)
 have hN := hf (ratN a * (ratD b : Int)) (ratN b * (ratD a : Int))
 have eN : frN f a b = f (ratN a * (ratD b : Int)) (ratN b * (ratD a : Int)) := rfl
 have e : frE f a b = 0 := by
  unfold frE rcE
  rw [a1, b1, (res_small (n := ratN a * (ratD b : Int)) (k := 20) (by omega) (by omega) (by omega)).2, (res_small (n := ratN b * (ratD a : Int)) (k := 20) (by omega) (by omega) (by omega)).2, eN,
   (res_small (n := f (ratN a * (ratD b : Int)) (ratN b * (ratD a : Int))) (k := 20) (by omega) (by omega) (by omega)).2, (res_small (n := (ratD a : Int) * (ratD b : Int)) (k := 20) (by omega) (by omega) (by omega)).2]
  rfl
 refine ⟨e, ?_, by omega, ⟨by omega, by omega⟩, ⟨by omega, by omega⟩⟩
 unfold frS
 rw [e]
 show showQ (frN f a b) _ = _
 unfold sgQ
 rw [show ltB ((ratD a : Int) * (ratD b : Int)) 0 = false from Bool.eq_false_iff.2 fun e => by have := (ltB_iff _ _).1 e; omega, cond_false, ← Int.natCast_mul, Int.toNat_natCast, eN]
theorem fr_a {f : Int → Int → Int} {a b : Str} (h : ratE a ≠ 0) : [] = frS f a b ∧ ratE a = frE f a b := by
 have e : frE f a b = ratE a := by
  unfold frE rcE
  rw [bne_iff_ne.2 h]
  simp only [cond_true]
  rw [bne_iff_ne.2 h]; rfl
 exact ⟨by unfold frS; rw [e, beq_eq_false_iff_ne.2 h]; rfl, e.symm⟩
theorem fr_b {f : Int → Int → Int} {a b : Str} (h0 : ratE a = 0) (h : ratE b ≠ 0) : [] = frS f a b ∧ ratE b = frE f a b := by
 have e : frE f a b = ratE b := by
  unfold frE rcE
  rw [h0, bne_iff_ne.2 h]
  simp only [bne_self_eq_false, cond_false, cond_true]
  rw [bne_iff_ne.2 h]; rfl
 exact ⟨by unfold frS; rw [e, beq_eq_false_iff_ne.2 h]; rfl, e.symm⟩
def qSub_t : List AV → Option (List Cond × AV)
 | [.str a, .str b] => some ([.p (a.length ≤ 9223372036854775807), .p (b.length ≤ 9223372036854775807)], .tup 2 (listFn [.str (frS (· - ·) a b), .i (frE (· - ·) a b)]))
 | _ => none
theorem qSub_vc (G : List (Nat × Obj)) (a : List UInt8) (b : List UInt8) (hla : a.length ≤ 9223372036854775807) (hlb : b.length ≤ 9223372036854775807) :
 let q2 := (True ∧ Array.toList (ByteArray.data (ByteArray.mk #[])) = frS (fun (x1 x2 : Int) => x1 - x2) a b); let q3 := (Pt.mk (AV.bytes (AV.str (bif ratE a == iZ then cutN a else []))) (AV.bytes (AV.str (bif ratE a == iZ then denS a else [])))); let q4 := (Pt.d q3); let q5 := (Pt.mk (AV.bytes (AV.str (bif ratE b == iZ then cutN b else []))) (AV.bytes (AV.str (bif ratE b == iZ then denS b else [])))); let q6 := (Pt.d q5); let q1 := (lN a ≤ 9223372036854775807 ∧ bsplit (ratE a != iZ) (j2 ∧ q2 ∧ kI ∧ ratE
 a = frE (fun (x1 x2 : Int) => x1 - x2) a b) (lN b ≤ 9223372036854775807 ∧ bsplit (ratE b != iZ) (j2 ∧ q2 ∧ kI ∧ ratE b = frE (fun (x1 x2 : Int) => x1 - x2) a b) ((intE (Pt.n q3) = iZ ∧ intE q4 = iZ ∧ valI q4 ≠ iZ) ∧ (intE (Pt.n q5) = iZ ∧ intE q6 = iZ ∧ valI q6 ≠ iZ) ∧ j2 ∧ (True ∧ cmS (fun (x1 x2 : Int) => x1 - x2) q3 q5 = frS (fun (x1 x2 : Int) => x1 - x2) a b) ∧ kI ∧ cmE (fun (x1 x2 : Int) => x1 - x2) q3 q5 = frE (fun (x1 x2 : Int) => x1 -
 x2) a b))); let q9 := (Value.agg #[Value.int .i64 iZ, Value.int .i64 iZ]); let q8 := (fun (i : Nat) => if 0 ≤ i ∧ i < 0 + 2 then listFn [AV.i (bif natB a then ratN a else iZ), AV.i (bif natB a then (↑(ratD a) : Int) else iZ)] (i - 0) else zcell q9 i); let q7 := (Nt.mk (AV.int (q8 0)) (AV.int (q8 1))); let q11 := (fun (i : Nat) => if 0 ≤ i ∧ i < 0 + 2 then listFn [AV.i (bif natB b then ratN b else iZ), AV.i (bif natB b then (↑(ratD b) : Int) else iZ)] (i - 0) else zcell q9 i); let q10 := (Nt.mk (AV.int (q11 0)) (AV.int (q11 1))); let q13 := (Nt.mk (Nt.n
 q7 * Nt.d q10 - Nt.n q10 * Nt.d q7) (Nt.d q7 * Nt.d q10)); let q12 := (Nt.mk (AV.int (aI (Nt.n q13))) (AV.int (aI (Nt.d q13)))); bndL [AV.str a, AV.str b] → lN a ≤ 9223372036854775807 ∧ bsplit (!natB a) q1 (lN b ≤ 9223372036854775807 ∧ bsplit (!natB b) q1 ((((-99999999 : Int) ≤ Nt.n q7 ∧ Nt.n q7 ≤ (99999999 : Int)) ∧ iZ < Nt.d q7 ∧ Nt.d q7 ≤ (99999999 : Int)) ∧ (((-99999999 : Int) ≤ Nt.n q10 ∧ Nt.n q10 ≤ (99999999 : Int)) ∧ iZ < Nt.d q10 ∧ Nt.d q10 ≤ (99999999 : Int)) ∧ Nt.d q12 ≠ iZ ∧ ((-1000000000000000000 : Int) ≤
 Nt.d q12 ∧ Nt.d q12 ≤ (1000000000000000000 : Int)) ∧ ((-1000000000000000000 : Int) ≤ Nt.n q12 ∧ Nt.n q12 ≤ (1000000000000000000 : Int)) ∧ j2 ∧ (True ∧ sgQ (Nt.n q12) (Nt.d q12) = frS (fun (x1 x2 : Int) => x1 - x2) a b) ∧ kI ∧ iZ = frE (fun (x1 x2 : Int) => x1 - x2) a b)) := by
 delta kI j2 lN iZ aI
 dsimp only
 intro hb
 simp only [sS, dS]
 refine ⟨hla, bsplit_iff.2 ⟨fun c => ?_, fun c => ⟨hlb, bsplit_iff.2 ⟨fun c2 => ?_, fun c2 => ?_⟩⟩⟩⟩
 rotate_left 2
 ·rw [Bool.not_eq_false'] at c c2
  obtain ⟨q1, q2, q3, q4, q5⟩ := fr_quick (f := fun x1 x2 => x1 - x2) (fun u v => by omega) c c2
  rw [q1, q2, c, c2]
  exact ⟨fr_sm c, fr_sm c2, q3, q4, q5, rfl, rfl, rfl⟩
 all_goals
  refine ⟨hla, fun h => ⟨rfl, fr_a h⟩, fun h0 => ⟨hlb, fun h => ⟨rfl, fr_b h0 h⟩, fun h1 => ?_⟩⟩
  obtain ⟨q1, q2⟩ := fr_cm (f := fun x1 x2 => x1 - x2) h0 h1
  rw [h0, h1]
  exact ⟨rat_pt h0, rat_pt h1, rfl, q1, q2⟩
theorem qSub_C {G : List (Nat × Obj)} (hG : TabIn G) (a : List UInt8) (b : List UInt8) (hla : a.length ≤ 9223372036854775807) (hlb : b.length ≤ 9223372036854775807) : PureCall Tryz.prog G 94 [.str a, .str b] (.tup 2 (listFn [.str (frS (· - ·) a b), .i (frE (· - ·) a b)])) :=
 pure_of_vc (T := ((Tar G).plus 144 qcS_t).body Tryz.prog bdR) (an := .auto) mixed (TbSound.body mixed (TbSound.plus (Tar_sound hG) (qcS_T hG)) _) (Eq.mp (by kernel_rfl) (qSub_vc G a b hla hlb))
theorem qSub_T {G : List (Nat × Obj)} (hG : TabIn G) : PureT Tryz.prog G 94 qSub_t := by
 intro xs ps r h hp
 unfold qSub_t at h
 split at h
 ·skip
  rename_i a b
  cases h
  obtain ⟨q0, q1, -⟩ := allC hp
  exact weaken (ys := [.str a, .str b]) ⟨avM_refl _, avM_refl _, trivial⟩ (qSub_C hG a b q0 q1)
 ·cases h
def qAdd_t : List AV → Option (List Cond × AV)
 | [.str a, .str b] => some ([.p (a.length ≤ 9223372036854775807), .p (b.length ≤ 9223372036854775807)], .tup 2 (listFn [.str (frS (· + ·) a b), .i (frE (· + ·) a b)]))
 | _ => none
theorem qAdd_vc (G : List (Nat × Obj)) (a : List UInt8) (b : List UInt8) (hla : a.length ≤ 9223372036854775807) (hlb : b.length ≤ 9223372036854775807) :
 let q2 := (True ∧ Array.toList (ByteArray.data (ByteArray.mk #[])) = frS (fun (x1 x2 : Int) => x1 + x2) a b); let q3 := (Pt.mk (AV.bytes (AV.str (bif ratE a == iZ then cutN a else []))) (AV.bytes (AV.str (bif ratE a == iZ then denS a else [])))); let q4 := (Pt.d q3); let q5 := (Pt.mk (AV.bytes (AV.str (bif ratE b == iZ then cutN b else []))) (AV.bytes (AV.str (bif ratE b == iZ then denS b else [])))); let q6 := (Pt.d q5); let q1 := (lN a ≤ 9223372036854775807 ∧ bsplit (ratE a != iZ) (j2 ∧ q2 ∧ kI ∧ ratE
 a = frE (fun (x1 x2 : Int) => x1 + x2) a b) (lN b ≤ 9223372036854775807 ∧ bsplit (ratE b != iZ) (j2 ∧ q2 ∧ kI ∧ ratE b = frE (fun (x1 x2 : Int) => x1 + x2) a b) ((intE (Pt.n q3) = iZ ∧ intE q4 = iZ ∧ valI q4 ≠ iZ) ∧ (intE (Pt.n q5) = iZ ∧ intE q6 = iZ ∧ valI q6 ≠ iZ) ∧ j2 ∧ (True ∧ cmS (fun (x1 x2 : Int) => x1 + x2) q3 q5 = frS (fun (x1 x2 : Int) => x1 + x2) a b) ∧ kI ∧ cmE (fun (x1 x2 : Int) => x1 + x2) q3 q5 = frE (fun (x1 x2 : Int) => x1 +
 x2) a b))); let q9 := (Value.agg #[Value.int .i64 iZ, Value.int .i64 iZ]); let q8 := (fun (i : Nat) => if 0 ≤ i ∧ i < 0 + 2 then listFn [AV.i (bif natB a then ratN a else iZ), AV.i (bif natB a then (↑(ratD a) : Int) else iZ)] (i - 0) else zcell q9 i); let q7 := (Nt.mk (AV.int (q8 0)) (AV.int (q8 1))); let q11 := (fun (i : Nat) => if 0 ≤ i ∧ i < 0 + 2 then listFn [AV.i (bif natB b then ratN b else iZ), AV.i (bif natB b then (↑(ratD b) : Int) else iZ)] (i - 0) else zcell q9 i); let q10 := (Nt.mk (AV.int (q11 0)) (AV.int (q11 1))); let q13 := (Nt.mk (Nt.n
 q7 * Nt.d q10 + Nt.n q10 * Nt.d q7) (Nt.d q7 * Nt.d q10)); let q12 := (Nt.mk (AV.int (aI (Nt.n q13))) (AV.int (aI (Nt.d q13)))); bndL [AV.str a, AV.str b] → lN a ≤ 9223372036854775807 ∧ bsplit (!natB a) q1 (lN b ≤ 9223372036854775807 ∧ bsplit (!natB b) q1 ((((-99999999 : Int) ≤ Nt.n q7 ∧ Nt.n q7 ≤ (99999999 : Int)) ∧ iZ < Nt.d q7 ∧ Nt.d q7 ≤ (99999999 : Int)) ∧ (((-99999999 : Int) ≤ Nt.n q10 ∧ Nt.n q10 ≤ (99999999 : Int)) ∧ iZ < Nt.d q10 ∧ Nt.d q10 ≤ (99999999 : Int)) ∧ Nt.d q12 ≠ iZ ∧ ((-1000000000000000000 : Int) ≤
 Nt.d q12 ∧ Nt.d q12 ≤ (1000000000000000000 : Int)) ∧ ((-1000000000000000000 : Int) ≤ Nt.n q12 ∧ Nt.n q12 ≤ (1000000000000000000 : Int)) ∧ j2 ∧ (True ∧ sgQ (Nt.n q12) (Nt.d q12) = frS (fun (x1 x2 : Int) => x1 + x2) a b) ∧ kI ∧ iZ = frE (fun (x1 x2 : Int) => x1 + x2) a b)) := by
 delta kI j2 lN iZ aI
 dsimp only
 intro hb
 simp only [sS, dS]
 refine ⟨hla, bsplit_iff.2 ⟨fun c => ?_, fun c => ⟨hlb, bsplit_iff.2 ⟨fun c2 => ?_, fun c2 => ?_⟩⟩⟩⟩
 rotate_left 2
 ·rw [Bool.not_eq_false'] at c c2
  obtain ⟨q1, q2, q3, q4, q5⟩ := fr_quick (f := fun x1 x2 => x1 + x2) (fun u v => by omega) c c2
  rw [q1, q2, c, c2]
  exact ⟨fr_sm c, fr_sm c2, q3, q4, q5, rfl, rfl, rfl⟩
 all_goals
  refine ⟨hla, fun h => ⟨rfl, fr_a h⟩, fun h0 => ⟨hlb, fun h => ⟨rfl, fr_b h0 h⟩, fun h1 => ?_⟩⟩
  obtain ⟨q1, q2⟩ := fr_cm (f := fun x1 x2 => x1 + x2) h0 h1
  rw [h0, h1]
  exact ⟨rat_pt h0, rat_pt h1, rfl, q1, q2⟩
theorem qAdd_C {G : List (Nat × Obj)} (hG : TabIn G) (a : List UInt8) (b : List UInt8) (hla : a.length ≤ 9223372036854775807) (hlb : b.length ≤ 9223372036854775807) : PureCall Tryz.prog G 43 [.str a, .str b] (.tup 2 (listFn [.str (frS (· + ·) a b), .i (frE (· + ·) a b)])) :=
 pure_of_vc (T := ((Tar G).plus 144 qcA_t).body Tryz.prog bdR) (an := .auto) mixed (TbSound.body mixed (TbSound.plus (Tar_sound hG) (qcA_T hG)) _) (Eq.mp (by kernel_rfl) (qAdd_vc G a b hla hlb))
theorem qAdd_T {G : List (Nat × Obj)} (hG : TabIn G) : PureT Tryz.prog G 43 qAdd_t := by
 intro xs ps r h hp
 unfold qAdd_t at h
 split at h
 ·skip
  rename_i a b
  cases h
  obtain ⟨q0, q1, -⟩ := allC hp
  exact weaken (ys := [.str a, .str b]) ⟨avM_refl _, avM_refl _, trivial⟩ (qAdd_C hG a b q0 q1)
 ·cases h
theorem mu_a {a b : Str} (h : ratE a ≠ 0) : [] = muS a b ∧ ratE a = muE a b := by
 have e : muE a b = ratE a := by unfold muE; rw [bne_iff_ne.2 h]; rfl
 exact ⟨by unfold muS; rw [e, beq_eq_false_iff_ne.2 h]; rfl, e.symm⟩
theorem mu_b {a b : Str} (h0 : ratE a = 0) (h : ratE b ≠ 0) : [] = muS a b ∧ ratE b = muE a b := by
 have e : muE a b = ratE b := by unfold muE; rw [h0, bne_iff_ne.2 h]; rfl
 exact ⟨by unfold muS; rw [e, beq_eq_false_iff_ne.2 h]; rfl, e.symm⟩
theorem mu_cm {a b : Str} (ha : ratE a = 0) (hb : ratE b = 0) : cuS ⟨cutN a, denS a⟩ ⟨cutN b, denS b⟩ = muS a b ∧ cuE ⟨cutN a, denS a⟩ ⟨cutN b, denS b⟩ = muE a b := by
 obtain ⟨_, _, a3, a4⟩ := vok ha
 obtain ⟨_, _, b3, b4⟩ := vok hb
 have pa := ratD_pos (ratE_zero.1 ha).1
 have pb := ratD_pos (ratE_zero.1 hb).1
 have e : cuE ⟨cutN a, denS a⟩ ⟨cutN b, denS b⟩ = muE a b := by
  unfold cuE muE
  rw [a3, a4, b3, b4, ha, hb]; rfl
 refine ⟨?_, e⟩
 unfold cuS muS
 rw [e]
 cases muE a b == 0 with
 | false => rfl
 | true =>
  simp only [cond_true]
  rw [a3, a4, b3, b4]
  have hp : (0 : Int) < (ratD a : Int) * (ratD b : Int) := Int.mul_pos (by omega) (by omega)
  unfold sgQ
  rw [show ltB ((ratD a : Int) * (ratD b : Int)) 0 = false from Bool.eq_false_iff.2 fun e => by have := (ltB_iff _ _).1 e; omega, cond_false, ← Int.natCast_mul, Int.toNat_natCast]
theorem mu_quick {a b : Str} (ha : natB a = true) (hb : natB b = true) :
  muE a b = 0 ∧ muS a b = sgQ (ratN a * ratN b) ((ratD a : Int) * (ratD b : Int)) ∧ (ratD a : Int) * (ratD b : Int) ≠ 0 ∧
  (-1000000000000000000 ≤ (ratD a : Int) * (ratD b : Int) ∧ (ratD a : Int) * (ratD b : Int) ≤ 1000000000000000000) ∧
  (-1000000000000000000 ≤ ratN a * ratN b ∧ ratN a * ratN b ≤ 1000000000000000000) := by
 obtain ⟨a1, a2, a3⟩ := nat_rat ha
 obtain ⟨b1, b2, b3⟩ := nat_rat hb
 have pa := ratD_pos (ratE_zero.1 a1).1
 have pb := ratD_pos (ratE_zero.1 b1).1
 have m1 := mul_sm (a := ratN a) (b := ratN b) ⟨by omega, by omega⟩ ⟨by omega, by omega⟩
 have m3 := mul_sm (a := (ratD a : Int)) (b := (ratD b : Int)) ⟨by omega, by omega⟩ ⟨by omega, by omega⟩
 have hp : (0 : Int) < (ratD a : Int) * (ratD b : Int) := Int.mul_pos (by omega) (by omega)
 have e : muE a b = 0 := by
  unfold muE
  rw [a1, b1, (res_small (n := ratN a * ratN b) (k := 20) (by omega) (by omega) (by omega)).2, (res_small (n := (ratD a : Int) * (ratD b : Int)) (k := 20) (by omega) (by omega) (by omega)).2]
  rfl
 refine ⟨e, ?_, by omega, ⟨by omega, by omega⟩, ⟨by omega, by omega⟩⟩
 unfold muS
 rw [e]
 show showQ _ _ = _
 unfold sgQ
 rw [show ltB ((ratD a : Int) * (ratD b : Int)) 0 = false from Bool.eq_false_iff.2 fun e => by have := (ltB_iff _ _).1 e; omega, cond_false, ← Int.natCast_mul, Int.toNat_natCast]
def qMul_t : List AV → Option (List Cond × AV)
 | [.str a, .str b] => some ([.p (a.length ≤ 9223372036854775807), .p (b.length ≤ 9223372036854775807)], .tup 2 (listFn [.str (muS a b), .i (muE a b)]))
 | _ => none
theorem qMul_vc (G : List (Nat × Obj)) (a : List UInt8) (b : List UInt8) (hla : a.length ≤ 9223372036854775807) (hlb : b.length ≤ 9223372036854775807) :
 let q2 := (True ∧ Array.toList (ByteArray.data (ByteArray.mk #[])) = muS a b); let q5 := (Value.agg #[Value.string (ByteArray.mk #[]), Value.string (ByteArray.mk #[])]); let q4 := (fun (i : Nat) => if 0 ≤ i ∧ i < 0 + 2 then listFn [AV.str (bif ratE a == iZ then cutN a else []), AV.str (bif ratE a == iZ then denS a else [])] (i - 0) else zcell q5 i); let q3 := (Pt.mk (AV.bytes (q4 0)) (AV.bytes (q4 1))); let q6 := (Pt.d q3); let q8 := (fun (i : Nat) => if 0 ≤ i ∧ i < 0 + 2 then listFn [AV.str (bif ratE b == iZ then cutN b else []), AV.str (bif ratE b == iZ then denS b
 else [])] (i - 0) else zcell q5 i); let q7 := (Pt.mk (AV.bytes (q8 0)) (AV.bytes (q8 1))); let q9 := (Pt.d q7); let q1 := (lN a ≤ 9223372036854775807 ∧ bsplit (ratE a != iZ) (j2 ∧ q2 ∧ kI ∧ ratE a = muE a b) (lN b ≤ 9223372036854775807 ∧ bsplit (ratE b != iZ) (j2 ∧ q2 ∧ kI ∧ ratE b = muE a b) ((intE (Pt.n q3) = iZ ∧ intE q6 = iZ ∧ valI q6 ≠ iZ) ∧ (intE (Pt.n q7) = iZ ∧ intE q9 = iZ ∧ valI q9 ≠ iZ) ∧ 2 = lN [AV.junk,
 AV.junk] ∧ (True ∧ cuS q3 q7 = muS a b) ∧ kI ∧ cuE q3 q7 = muE a b))); let q12 := (Value.agg #[Value.int .i64 iZ, Value.int .i64 iZ]); let q11 := (fun (i : Nat) => if 0 ≤ i ∧ i < 0 + 2 then listFn [AV.i (bif natB a then ratN a else iZ), AV.i (bif natB a then (↑(ratD a) : Int) else iZ)] (i - 0) else zcell q12 i); let q10 := (Nt.mk (AV.int (q11 0)) (AV.int (q11 1))); let q14 := (fun (i : Nat) => if 0 ≤ i ∧ i < 0 + 2 then listFn [AV.i (bif natB b then ratN b else iZ), AV.i (bif natB b then (↑(ratD b) : Int) else iZ)] (i - 0) else zcell q12
 i); let q13 := (Nt.mk (AV.int (q14 0)) (AV.int (q14 1))); let q16 := (Nt.mk (Nt.n q10 * Nt.n q13) (Nt.d q10 * Nt.d q13)); let q15 := (Nt.mk (AV.int (aI (Nt.n q16))) (AV.int (aI (Nt.d q16)))); bndL [AV.str a, AV.str b] → lN a ≤ 9223372036854775807 ∧ bsplit (!natB a) q1 (lN b ≤ 9223372036854775807 ∧ bsplit (!natB b) q1 ((((-99999999 : Int) ≤ Nt.n q10 ∧ Nt.n q10 ≤ (99999999 : Int)) ∧ iZ < Nt.d q10 ∧ Nt.d q10 ≤ (99999999 : Int)) ∧ (((-99999999 : Int) ≤ Nt.n q13 ∧ Nt.n q13 ≤ (99999999 : Int)) ∧ iZ < Nt.d q13 ∧ Nt.d q13 ≤ (99999999
 : Int)) ∧ Nt.d q15 ≠ iZ ∧ ((-1000000000000000000 : Int) ≤ Nt.d q15 ∧ Nt.d q15 ≤ (1000000000000000000 : Int)) ∧ ((-1000000000000000000 : Int) ≤ Nt.n q15 ∧ Nt.n q15 ≤ (1000000000000000000 : Int)) ∧ j2 ∧ (True ∧ sgQ (Nt.n q15) (Nt.d q15) = muS a b) ∧ kI ∧ iZ = muE a b)) := by
 delta kI j2 lN iZ aI
 dsimp only
 intro hb
 simp only [sS, dS]
 refine ⟨hla, bsplit_iff.2 ⟨fun c => ?_, fun c => ⟨hlb, bsplit_iff.2 ⟨fun c2 => ?_, fun c2 => ?_⟩⟩⟩⟩
 rotate_left 2
 ·rw [Bool.not_eq_false'] at c c2
  obtain ⟨q1, q2, q3, q4, q5⟩ := mu_quick c c2
  rw [q1, q2, c, c2]
  exact ⟨fr_sm c, fr_sm c2, q3, q4, q5, rfl, rfl, rfl⟩
 all_goals
  refine ⟨hla, fun h => ⟨rfl, mu_a h⟩, fun h0 => ⟨hlb, fun h => ⟨rfl, mu_b h0 h⟩, fun h1 => ?_⟩⟩
  obtain ⟨q1, q2⟩ := mu_cm h0 h1
  rw [h0, h1]
  exact ⟨rat_pt h0, rat_pt h1, rfl, q1, q2⟩
theorem qMul_C {G : List (Nat × Obj)} (hG : TabIn G) (a : List UInt8) (b : List UInt8) (hla : a.length ≤ 9223372036854775807) (hlb : b.length ≤ 9223372036854775807) : PureCall Tryz.prog G 128 [.str a, .str b] (.tup 2 (listFn [.str (muS a b), .i (muE a b)])) :=
 pure_of_vc (T := (Tar G).body Tryz.prog bdR) (an := .auto) mixed (TbSound.body mixed (Tar_sound hG) _) (Eq.mp (by kernel_rfl) (qMul_vc G a b hla hlb))
theorem qMul_T {G : List (Nat × Obj)} (hG : TabIn G) : PureT Tryz.prog G 128 qMul_t := by
 intro xs ps r h hp
 unfold qMul_t at h
 split at h
 ·skip
  rename_i a b
  cases h
  obtain ⟨q0, q1, -⟩ := allC hp
  exact weaken (ys := [.str a, .str b]) ⟨avM_refl _, avM_refl _, trivial⟩ (qMul_C hG a b q0 q1)
 ·cases h
end Go.Te

namespace Go.Te
open Go Go.Sx Go.Proofs Go.Ar
set_option maxRecDepth 100000
set_option maxHeartbeats 4000000
structure Spt where
 x : Str
 y : Str
 z : Str
instance : Enc Spt := ⟨3, ⟨[], [], []⟩, fun c => listFn [.str c.x, .str c.y, .str c.z], fun cs => ⟨AV.bytes (cs 0), AV.bytes (cs 1), AV.bytes (cs 2)⟩, fun cs => isStr (cs 0) && isStr (cs 1) && isStr (cs 2), fun cs h j hj => by
 simp only [Bool.and_eq_true] at h
 match j, hj with
 | 0, _ => exact avM_of_eq (isStr_eq h.1.1)
 | 1, _ => exact avM_of_eq (isStr_eq h.1.2)
 | 2, _ => exact avM_of_eq (isStr_eq h.2)⟩
instance : LawEnc Spt := ⟨fun _ => rfl, fun _ => rfl⟩
def spL (a : Spt) : Prop := a.x.length ≤ 9223372036854775807 ∧ a.y.length ≤ 9223372036854775807 ∧ a.z.length ≤ 9223372036854775807
def vcE (a : Spt) : Int := bif ratE a.x != 0 then ratE a.x else bif ratE a.y != 0 then ratE a.y else ratE a.z
def vchk_an  : Ann :=
 .two .auto (.two (.two .auto (.one (.unroll 4 .auto))) .auto)
def vchk_t : List AV → Option (List Cond × AV)
 | [.agg 3 p_a] => some ([.b (isStr (p_a 0) && isStr (p_a 1) && isStr (p_a 2)), .p (spL (⟨AV.bytes (p_a 0), AV.bytes (p_a 1), AV.bytes (p_a 2)⟩ : Spt))], .i (vcE (⟨AV.bytes (p_a 0), AV.bytes (p_a 1), AV.bytes (p_a 2)⟩ : Spt)))
 | _ => none
theorem vchk_vc (G : List (Nat × Obj)) (a : Spt) (hl : spL a) :
 bndL [AV.agg 3 (Enc.enc a)] → lN (Spt.x a) ≤ 9223372036854775807 ∧ bsplit (ratE (Spt.x a) != iZ) (kI ∧ ratE (Spt.x a) = vcE a) (lN (Spt.y a) ≤ 9223372036854775807 ∧ bsplit (ratE (Spt.y a) != iZ) (kI ∧ ratE (Spt.y a) = vcE a) (lN (Spt.z a) ≤ 9223372036854775807 ∧ bsplit (ratE (Spt.z a) != iZ) (kI ∧ ratE (Spt.z a) = vcE a) (kI ∧ iZ = vcE a))) := by
 delta kI lN iZ
 intro hb
 simp only [sS, dS]
 obtain ⟨l1, l2, l3⟩ := hl
 refine ⟨l1, fun h => ?_, fun h1 => ⟨l2, fun h => ?_, fun h2 => ⟨l3, fun h => ?_, fun h3 => ?_⟩⟩⟩
 ·unfold vcE; rw [bne_iff_ne.2 h]; rfl
 ·unfold vcE; rw [h1, bne_iff_ne.2 h]; rfl
 ·unfold vcE; rw [h1, h2]; rfl
 ·unfold vcE; rw [h1, h2, h3]; rfl
theorem vchk_C {G : List (Nat × Obj)} (hG : TabIn G) (a : Spt) (hl : spL a) : PureCall Tryz.prog G 127 [agE a] (.i (vcE a)) :=
 pure_of_vc (T := ((tb0 G).plus 110 rchk_t).body Tryz.prog [(139, .auto)]) (an := vchk_an) mixed (TbSound.body mixed (TbSound.plus tb0_sound (rchk_T hG)) _) (Eq.mp (by kernel_rfl) (vchk_vc G a hl))
theorem vchk_T {G : List (Nat × Obj)} (hG : TabIn G) : PureT Tryz.prog G 127 vchk_t := by
 intro xs ps r h hp
 unfold vchk_t at h
 split at h
 ·skip
  rename_i p_a
  cases h
  obtain ⟨q0, q1, -⟩ := allC hp
  exact weaken (ys := [agE (⟨AV.bytes (p_a 0), AV.bytes (p_a 1), AV.bytes (p_a 2)⟩ : Spt)]) ⟨agE_sound (x := .agg 3 p_a) (α := Spt) q0, trivial⟩ (vchk_C hG (⟨AV.bytes (p_a 0), AV.bytes (p_a 1), AV.bytes (p_a 2)⟩ : Spt) q1)
 ·cases h
def with_an  : Ann :=
 .two .auto (.two .auto (.two .auto (.two (.two .auto (.one (.unroll 4 .auto))) .auto)))
def vsE (a b : Spt) : Int :=
 bif vcE a != 0 then vcE a else bif vcE b != 0 then vcE b else bif frE (· - ·) a.x b.x != 0 then frE (· - ·) a.x b.x else bif frE (· - ·) a.y b.y != 0 then frE (· - ·) a.y b.y else frE (· - ·) a.z b.z
def vsS (a b : Spt) : Spt := bif vsE a b == 0 then ⟨frS (· - ·) a.x b.x, frS (· - ·) a.y b.y, frS (· - ·) a.z b.z⟩ else ⟨[], [], []⟩
noncomputable def Tvs (G : List (Nat × Obj)) : Tb := ((((tb0 G).plus 127 vchk_t).plus 94 qSub_t).body Tryz.prog [(139, .auto), (140, .auto)]).body Tryz.prog [(92, .auto), (93, with_an)]
theorem Tvs_sound {G : List (Nat × Obj)} (hG : TabIn G) : TbSound Tryz.prog (Tvs G) := TbSound.body mixed (TbSound.body mixed (TbSound.plus (TbSound.plus tb0_sound (vchk_T hG)) (qSub_T hG)) _) _
def vsub_t : List AV → Option (List Cond × AV)
 | [.agg 3 p_a, .agg 3 p_b] => some ([.b (isStr (p_a 0) && isStr (p_a 1) && isStr (p_a 2)), .b (isStr (p_b 0) && isStr (p_b 1) && isStr (p_b 2)), .p (spL (⟨AV.bytes (p_a 0), AV.bytes (p_a 1), AV.bytes (p_a 2)⟩ : Spt)), .p (spL (⟨AV.bytes (p_b 0), AV.bytes (p_b 1), AV.bytes (p_b 2)⟩ : Spt))], .tup 2 (listFn [agE (vsS (⟨AV.bytes (p_a 0), AV.bytes (p_a 1), AV.bytes (p_a 2)⟩ : Spt) (⟨AV.bytes (p_b 0), AV.bytes (p_b 1), AV.bytes (p_b 2)⟩ : Spt)), .i (vsE (⟨AV.bytes (p_a 0), AV.bytes (p_a 1), AV.bytes (p_a 2)⟩ : Spt) (⟨AV.bytes (p_b 0), AV.bytes (p_b 1), AV.bytes (p_b 2)⟩ : Spt))]))
 | _ => none
theorem vsub_vc (G : List (Nat × Obj)) (a : Spt) (b : Spt) (ha : spL a) (hb' : spL b) :
 let q1 := (Spt.mk (AV.bytes ((fun (i : Nat) => Enc.enc a (0 + i)) 0)) (AV.bytes ((fun (i : Nat) => Enc.enc a (0 + i)) 1)) (AV.bytes ((fun (i : Nat) => Enc.enc a (0 + i)) 2))); let q2 := (vcE q1 != iZ); let q3 := (True ∧ 3 = 3 ∧ (Array.toList (ByteArray.data (ByteArray.mk #[])) = Spt.x (vsS a b) ∧ Array.toList (ByteArray.data (ByteArray.mk #[])) = Spt.y (vsS a b)) ∧ Array.toList (ByteArray.data (ByteArray.mk #[])) = Spt.z (vsS a b)); let q4 := (lN (Spt.x a) ≤ 9223372036854775807 ∧ lN (Spt.x b) ≤ 9223372036854775807 ∧ bsplit (frE (fun (x1 x2 : Int) => x1 - x2) (Spt.x a)
 (Spt.x b) != iZ) (j2 ∧ q3 ∧ kI ∧ frE (fun (x1 x2 : Int) => x1 - x2) (Spt.x a) (Spt.x b) = vsE a b) (lN (Spt.y a) ≤ 9223372036854775807 ∧ lN (Spt.y b) ≤ 9223372036854775807 ∧ bsplit (frE (fun (x1 x2 : Int) => x1 - x2) (Spt.y a) (Spt.y b) != iZ) (j2 ∧ q3 ∧ kI ∧ frE (fun (x1 x2 : Int) => x1 - x2) (Spt.y a) (Spt.y b) = vsE a b) (lN (Spt.z a) ≤ 9223372036854775807 ∧ lN (Spt.z b) ≤ 9223372036854775807 ∧ bsplit (frE (fun (x1 x2 : Int) => x1 - x2) (Spt.z a)
 (Spt.z b) != iZ) (j2 ∧ q3 ∧ kI ∧ frE (fun (x1 x2 : Int) => x1 - x2) (Spt.z a) (Spt.z b) = vsE a b) (j2 ∧ (True ∧ 3 = 3 ∧ (frS (fun (x1 x2 : Int) => x1 - x2) (Spt.x a) (Spt.x b) = Spt.x (vsS a b) ∧ frS (fun (x1 x2 : Int) => x1 - x2) (Spt.y a) (Spt.y b) = Spt.y (vsS a b)) ∧ frS (fun (x1 x2 : Int) => x1 - x2) (Spt.z a) (Spt.z b) = Spt.z (vsS a b)) ∧ kI ∧ iZ = vsE a b)))); let q5 := (Spt.mk (AV.bytes ((fun (i : Nat) => Enc.enc b (0 + i)) 0)) (AV.bytes ((fun (i : Nat) => Enc.enc b (0 + i))
 1)) (AV.bytes ((fun (i : Nat) => Enc.enc b (0 + i)) 2))); bndL [AV.agg 3 (Enc.enc a), AV.agg 3 (Enc.enc b)] → (lN (Spt.x q1) ≤ 9223372036854775807 ∧ lN (Spt.y q1) ≤ 9223372036854775807 ∧ lN (Spt.z q1) ≤ 9223372036854775807) ∧ bsplit q2 (bsplit q2 (j2 ∧ q3 ∧ kI ∧ vcE q1 = vsE a b) q4) ((lN (Spt.x q5) ≤ 9223372036854775807 ∧ lN (Spt.y q5) ≤ 9223372036854775807 ∧ lN (Spt.z q5) ≤ 9223372036854775807) ∧ bsplit (vcE q5 != iZ) (j2 ∧ q3 ∧ kI ∧ vcE
 q5 = vsE a b) q4) := by
 delta kI j2 lN iZ
 dsimp only
 intro hb
 have spS : (∀ m : Spt, AV.bytes (Enc.enc m 0) = m.x) ∧ (∀ m : Spt, AV.bytes (Enc.enc m 1) = m.y) ∧ (∀ m : Spt, AV.bytes (Enc.enc m 2) = m.z) := ⟨fun _ => rfl, fun _ => rfl, fun _ => rfl⟩
 have eta : ∀ m : Spt, (⟨m.x, m.y, m.z⟩ : Spt) = m := fun _ => rfl
 simp only [sS, dS, spS, eta]
 have bad : ∀ e : Int, e ≠ 0 → e = vsE a b → 2 = [AV.junk, AV.junk].length ∧ (([] = (vsS a b).x ∧ [] = (vsS a b).y) ∧ [] = (vsS a b).z) ∧ e = vsE a b := fun e h0 h => by
  have e1 : vsS a b = ⟨[], [], []⟩ := by unfold vsS; rw [← h, beq_eq_false_iff_ne.2 h0]; rfl
  rw [e1]
  exact ⟨rfl, ⟨⟨rfl, rfl⟩, rfl⟩, h⟩
 refine ⟨ha, fun h => ⟨fun _ => bad _ h ?_, fun h0 => absurd h0 h⟩, fun h1 => ⟨hb', fun h => bad _ h ?_, fun h2 => ⟨ha.1, hb'.1, fun h => bad _ h ?_, fun h3 => ⟨ha.2.1, hb'.2.1, fun h => bad _ h ?_, fun h4 => ⟨ha.2.2, hb'.2.2, fun h => bad _ h ?_, fun h5 => ?_⟩⟩⟩⟩⟩
 ·unfold vsE; rw [bne_iff_ne.2 h]; rfl
 ·unfold vsE; rw [h1, bne_iff_ne.2 h]; rfl
 ·unfold vsE; rw [h1, h2, bne_iff_ne.2 h]; rfl
 ·unfold vsE; rw [h1, h2, h3, bne_iff_ne.2 h]; rfl
 ·unfold vsE; rw [h1, h2, h3, h4]; rfl
 ·have e : vsE a b = 0 := by unfold vsE; rw [h1, h2, h3, h4, h5]; rfl
  have e1 : vsS a b = ⟨frS (· - ·) a.x b.x, frS (· - ·) a.y b.y, frS (· - ·) a.z b.z⟩ := by unfold vsS; rw [e]; rfl
  rw [e, e1]
  exact ⟨rfl, ⟨⟨rfl, rfl⟩, rfl⟩, rfl⟩
theorem vsub_C {G : List (Nat × Obj)} (hG : TabIn G) (a : Spt) (b : Spt) (ha : spL a) (hb' : spL b) : PureCall Tryz.prog G 40 [agE a, agE b] (.tup 2 (listFn [agE (vsS a b), .i (vsE a b)])) :=
 pure_of_vc (T := Tvs G) (an := .auto) mixed (Tvs_sound hG) (Eq.mp (by kernel_rfl) (vsub_vc G a b ha hb'))
theorem vsub_T {G : List (Nat × Obj)} (hG : TabIn G) : PureT Tryz.prog G 40 vsub_t := by
 intro xs ps r h hp
 unfold vsub_t at h
 split at h
 ·skip
  rename_i p_a p_b
  cases h
  obtain ⟨q0, q1, q2, q3, -⟩ := allC hp
  exact weaken (ys := [agE (⟨AV.bytes (p_a 0), AV.bytes (p_a 1), AV.bytes (p_a 2)⟩ : Spt), agE (⟨AV.bytes (p_b 0), AV.bytes (p_b 1), AV.bytes (p_b 2)⟩ : Spt)]) ⟨agE_sound (x := .agg 3 p_a) (α := Spt) q0, agE_sound (x := .agg 3 p_b) (α := Spt) q1, trivial⟩ (vsub_C hG (⟨AV.bytes (p_a 0), AV.bytes (p_a 1), AV.bytes (p_a 2)⟩ : Spt) (⟨AV.bytes (p_b 0), AV.bytes (p_b 1), AV.bytes (p_b 2)⟩ : Spt) q2 q3)
 ·cases h
end Go.Te

namespace Go.Te
open Go Go.Sx Go.Proofs Go.Ar
set_option maxRecDepth 100000
set_option maxHeartbeats 4000000
end Go.Te

namespace Go.Te
open Go Go.Sx Go.Proofs Go.Ar
set_option maxRecDepth 100000
set_option maxHeartbeats 4000000
end Go.Te

namespace Go.Te
open Go Go.Sx Go.Proofs Go.Ar
set_option maxRecDepth 100000
set_option maxHeartbeats 4000000
theorem rc_D {a b : Str} (h0 : ratE a = 0) (h1 : ratE b = 0) (h : resE (ratN a * (ratD b : Int)) = 0) : rcE a b = resE (ratN b * (ratD a : Int)) := by
 unfold rcE; rw [h0, h1, h]; rfl
theorem rc_E {a b : Str} (h : rcE a b = 0) : rcV a b = cmpI (ratN a * (ratD b : Int)) (ratN b * (ratD a : Int)) := by unfold rcV; rw [h]; rfl
theorem rat_form {a : Str} (h : ratE a = 0) : formO a = true := by
 cases hf : formO a with
 | true => rfl
 | false => rw [ratE_bad hf] at h; cases h
end Go.Te
